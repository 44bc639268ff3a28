/-
  For every place, filling and row of calls, the law CursorPlays returns true: what the calls on a cursor answer, where it is, what it holds and what stands in the flash agree with the definition, also where power goes. No condition.
-/
import Derived.Test.YtngofnlhbhfigaaKcFR
import Derived.Test.YtngofnlhbhfigaaActs4
import Derived.Test.YtngofnlhbhfigaaKcFill
import Derived.Test.YtngofnlhbhfigaaInit
namespace Go.Proofs.Ytngofnlhbhfigaa
open Go.RowKit Go.ChangeShapes Go.WideShapes Go.ChangeAt Go.Deep

theorem Room.flushX {f c : Nat} {s : FS} {k : KS} {m : Nat} (h : Room s (m + 264)) (hc : c ≤ 256) (hl : k.word.length = 8) (hn : k.n ≤ 8) : Room (flushK f c s k).1 m := by
  unfold flushK
  split
  · exact h.less (by omega)
  · exact Room.afterProg h hc hl hn
theorem Fresh.roomX {s : FS} (h : Fresh s) : Room s 100000000 := ⟨by rw [h.st]; decide, fun i => by rw [h.er]; decide⟩
theorem Sim.room {s r : FS} {m : Nat} (h : Sim s r) (hr : Room s m) : Room r m := ⟨by rw [h.steps]; exact hr.st, by rw [h.er]; exact hr.er⟩
theorem rflush_st (f c : Nat) (s : FS) (k : RS) : (rflush f c s k).2.1.held = k.held := by
  unfold rflush
  split
  · exact (rword_st f c s k (k.at_ - k.held.length) (k.held ++ blankN ((8 - k.held.length : Nat) : Int))).2.1
  · rfl
theorem CSim.h7 {c : Nat} {k : KS} {kr : RS} (h : CSim c k kr) : k.err = 0 → k.n < 8 := fun h0 => by
  obtain ⟨x0, hv⟩ := h.live h0
  exact hv.n
theorem CSim.r7 {c : Nat} {k : KS} {kr : RS} (h : CSim c k kr) : kr.dead = 0 → kr.held.length < 8 := fun h0 => by
  have := h.h7 (by rw [← h.dead]; exact h0)
  rw [h.held, List.length_take]; omega
/-- The bytes of the reference's flash, as it stands. -/
theorem RAt.told (B : Nat) (L : RL) (r : FS) {q N : Nat} {zs : List Int} (hq : L.bf = q) (hb : r.b = zs) (hN : zs.length = N) : ∃ gb capb, ∀ w', RAt w' B L r → w'.cell? ⟨q, 0, none⟩ = some (.slice (some ⟨gb, 0, none⟩) N capb) ∧ Bs w' (some ⟨gb, 0, none⟩) N capb zs :=
  ⟨L.gb, L.capb, fun w' h => by
    have hl := h.bl
    rw [hb] at hl
    have e : L.N = N := hl.symm.trans hN
    have c0 := h.f.cellD 0 _ rfl
    have bs := h.bs
    rw [e] at c0 bs
    rw [hb] at bs
    rw [← hq]
    exact ⟨c0, bs⟩⟩
section
variable (f c : Nat)
theorem prepF_el (sector : Nat) : ∀ (j : Nat) (s : FS) (r : Nat), (prepF f c sector j s r).1.er.length = s.er.length
  | 0, _, _ => rfl
  | j + 1, s, r => by
    unfold prepF
    split
    · split
      · rfl
      · split
        · exact prepF_el sector j s (r + 1)
        · split
          · exact gerase_len s f c r
          · exact (prepF_el sector j _ (r + 1)).trans (gerase_len s f c r)
    · rfl
theorem progK_el (s : FS) (k : KS) : (progK f c s k).1.er.length = s.er.length := by
  have h1 : (prepK f c ((k.at_ - k.n) / 1024) s k).1.er.length = s.er.length := prepF_el f c _ _ s k.ready
  unfold progK
  dsimp only
  split
  · exact h1
  · show (FS.gprog _ f c _ _).1.er.length = _
    rw [(gprog_more _ f c _ _).1]; exact h1
theorem putK_el (s : FS) (k : KS) (z : Int) : (putK f c s k z).1.er.length = s.er.length := by
  have h1 := progK_el f c s (k.got z)
  unfold putK
  split
  · rfl
  · split
    · exact h1
    · exact h1
theorem rowK_el : ∀ (zs : List Int) (s : FS) (k : KS), (rowK f c zs s k).1.er.length = s.er.length
  | [], _, _ => rfl
  | z :: zs, s, k => by
    rw [rowK_cons]
    split
    · exact putK_el f c s k z
    · exact (rowK_el zs _ _).trans (putK_el f c s k z)
theorem writeK_el (s : FS) (k : KS) (zs : List Int) : (writeK f c s k zs).1.er.length = s.er.length := by
  unfold writeK
  split
  · rfl
  · split
    · rfl
    · exact rowK_el f c zs s k
theorem flushK_el (s : FS) (k : KS) : (flushK f c s k).1.er.length = s.er.length := by
  unfold flushK
  split
  · rfl
  · exact progK_el f c s k
end
theorem armF_el (s : FS) (after : Int) (ps : List Int) : (s.armF after ps).er.length = s.er.length := by
  unfold FS.armF; split <;> rfl
theorem FAt.four {w : World} {B : Nat} {L : FL} {s : FS} (h : FAt w B L s) (he : s.er.length = 4) : s.b.length = 4096 := by
  have h1 := h.el
  have h2 := h.nN
  have h3 := h.bl
  omega
/-- A call row that goes on. -/
structure PX (W w : World) (B0 q : Nat) (L : FL) (s : FS) (cb : Nat) (k : KS) (B1 qr : Nat) (Lr : RL) (r : FS) (K : RKL) (kr : RS) (m : Nat) : Prop where
  h : FRC W w B0 q L s cb 1 3 k B1 qr Lr r K kr
  sm : Sim s r
  cs : CSim 3 k kr
  rm : Room s m
  el : s.er.length = 4
section
variable {W w w' : World} {B0 q : Nat} {L : FL} {s : FS} {cb : Nat} {k : KS} {B1 qr : Nat} {Lr : RL} {r : FS} {K : RKL} {kr : RS} {m : Nat}
theorem PX.later (p : PX W w B0 q L s cb k B1 qr Lr r K kr m) (hk : Keeps None w w') : PX W w' B0 q L s cb k B1 qr Lr r K kr m := ⟨p.h.later hk, p.sm, p.cs, p.rm, p.el⟩
theorem PX.drew (p : PX W w B0 q L s cb k B1 qr Lr r K kr m) : PX W w.drew B0 q L s cb k B1 qr Lr r K kr m := p.later (Keeps.refl None w).drew
theorem PX.less {n : Nat} (p : PX W w B0 q L s cb k B1 qr Lr r K kr m) (hn : n ≤ m) : PX W w B0 q L s cb k B1 qr Lr r K kr n := ⟨p.h, p.sm, p.cs, p.rm.less hn, p.el⟩
end
section
variable {W w w' : World} {B0 q : Nat} {L L' : FL} {s : FS} {cb : Nat} {k : KS} {B1 qr : Nat} {Lr Lr' : RL} {r : FS} {K K' : RKL} {kr : RS} {m : Nat}
theorem PX.write {zs : List Int} (p : PX W w B0 q L s cb k B1 qr Lr r K kr (m + 300000)) (hz : zs.length ≤ 1100) (h : FRC W w' B0 q L' (writeK 1 3 s k zs).1 cb 1 3 (writeK 1 3 s k zs).2.1 B1 qr Lr' (rwrite 1 3 r kr zs).1 K' (rwrite 1 3 r kr zs).2.1) :
    PX W w' B0 q L' (writeK 1 3 s k zs).1 cb (writeK 1 3 s k zs).2.1 B1 qr Lr' (rwrite 1 3 r kr zs).1 K' (rwrite 1 3 r kr zs).2.1 m := by
  have hs := write_sim (f := 1) (zs := zs) (by decide) p.sm p.cs p.h.pf.kat.len p.h.pf.kat.al (p.rm.less (by omega))
  exact ⟨h, hs.1, hs.2.2, Room.write (by decide) p.cs.h7 p.h.pf.kat.len (p.rm.less (by omega)), (writeK_el 1 3 s k zs).trans p.el⟩
theorem PX.werr {zs : List Int} (p : PX W w B0 q L s cb k B1 qr Lr r K kr (m + 300000)) (hz : zs.length ≤ 1100) : (rwrite 1 3 r kr zs).2.2 = (writeK 1 3 s k zs).2.2 :=
  (write_sim (f := 1) (zs := zs) (by decide) p.sm p.cs p.h.pf.kat.len p.h.pf.kat.al (p.rm.less (by omega))).2.1
theorem PX.flush (p : PX W w B0 q L s cb k B1 qr Lr r K kr (m + 300000)) (h : FRC W w' B0 q L' (flushK 1 3 s k).1 cb 1 3 (flushK 1 3 s k).2.1 B1 qr Lr' (rflush 1 3 r kr).1 K' (rflush 1 3 r kr).2.1) :
    PX W w' B0 q L' (flushK 1 3 s k).1 cb (flushK 1 3 s k).2.1 B1 qr Lr' (rflush 1 3 r kr).1 K' (rflush 1 3 r kr).2.1 m := by
  have hs := flush_sim (f := 1) (by decide) p.sm p.cs p.h.pf.kat.len p.h.pf.kat.al (p.rm.less (by omega))
  exact ⟨h, hs.1, hs.2.2, Room.flushX (p.rm.less (by omega)) (by decide) p.h.pf.kat.len p.h.pf.kat.n8, (flushK_el 1 3 s k).trans p.el⟩
theorem PX.ferr (p : PX W w B0 q L s cb k B1 qr Lr r K kr (m + 300000)) : (rflush 1 3 r kr).2.2 = (flushK 1 3 s k).2.2 :=
  (flush_sim (f := 1) (by decide) p.sm p.cs p.h.pf.kat.len p.h.pf.kat.al (p.rm.less (by omega))).2.1
theorem PX.arm (p : PX W w B0 q L s cb k B1 qr Lr r K kr (m + 300000)) (n : Int) (ps : List Int) (h : FRC W w' B0 q L' (s.armF n ps) cb 1 3 k B1 qr Lr' (r.armR n ps) K' kr) : PX W w' B0 q L' (s.armF n ps) cb k B1 qr Lr' (r.armR n ps) K' kr m :=
  ⟨h, p.sm.arm n ps (by have := p.rm.st; omega), p.cs, (p.rm.less (by omega)).armX n ps, (armF_el s n ps).trans p.el⟩
theorem PX.boot (p : PX W w B0 q L s cb k B1 qr Lr r K kr (m + 300000)) (h : FRC W w' B0 q L' s.bootF cb 1 3 k B1 qr Lr' r.bootF K' kr) : PX W w' B0 q L' s.bootF cb k B1 qr Lr' r.bootF K' kr m :=
  ⟨h, p.sm.boot, p.cs, (p.rm.less (by omega)).bootX, p.el⟩
end
set_option maxRecDepth 100000 in
set_option maxHeartbeats 6400000 in
theorem plays4_any (from_ : Int) (A0 : Option Addr) (m0 c0 : Nat) (zs0 : List Int) (A : Option Addr) (m cap : Nat) (xs : List Value) (F : Nat → Ac) (W : World) (h0 : Bs W A0 m0 c0 zs0) (h : Acts4At W A m cap xs F) :
    Calls Try.prog 16 #[.int .i64 from_, .slice A0 m0 c0, .slice A m cap] W fun e w' => e = .returned (.bool true) ∧ Below W.heap.size W w' := by
  have FEW := Lib.hid (fun w hk => few4_any A m cap xs F W w h hk)
  have m1 := h.sl.2.1
  have m2 := h.sl.2.2.1
  have l0 := h0.le
  have l9 := h0.max
  cases hfw : fewB m F with
  | false =>
    rw [hfw] at FEW
    clear hfw h h0
    go_enter Try.func16, Try.ntmps16
    go_wp2_with fail
    refine (alive4_any W).mono ?_
    rintro e w1 ⟨rfl, K1⟩
    go_wp2_with fail
    refine (FEW.out _ K1).mono ?_
    rintro e w' ⟨rfl, rfl⟩
    go_wp2
    go_ret
    exact ⟨rfl, K1.below (fun _ _ h => h)⟩
  | true =>
  rw [hfw] at FEW
  obtain ⟨f1a, f1b⟩ := fewB_yes hfw
  have FB := Lib.hid f1b
  have HAC := Lib.hid h
  clear hfw f1b h
  by_cases g0 : 300 < m0
  · have d0 : decide (300 < (m0 : Int)) = true := decide_eq_true (by omega)
    clear h0
    go_enter Try.func16, Try.ntmps16
    go_wp2_with fail
    refine (alive4_any W).mono ?_
    rintro e w1 ⟨rfl, K1⟩
    go_wp2_with fail
    refine (FEW.out _ K1).mono ?_
    rintro e w' ⟨rfl, rfl⟩
    go_wp2
    go_ret
    exact ⟨rfl, K1.below (fun _ _ h => h)⟩
  have d0 : decide (300 < (m0 : Int)) = false := decide_eq_false (by omega)
  have FI := Lib.hid (fun w hk => filled4_any A0 m0 c0 zs0 W w hk h0 (by omega))
  have NR := Lib.hid (fun w => rfnew_any 4 w)
  unfold RMade at NR
  clear h0
  go_enter Try.func16, Try.ntmps16
  go_wp2_with fail
  refine (alive4_any W).mono ?_
  rintro e w1 ⟨rfl, K1⟩
  go_wp2_with fail
  refine (FEW.out _ K1).mono ?_
  rintro e w' ⟨rfl, rfl⟩
  have HK1 := Lib.hid K1
  clear K1
  go_wp2_with fail
  refine (FI.out _ HK1.out).mono ?_
  rintro e w2 ⟨q, L, s, rfl, hF, hS⟩
  have HF := Lib.hid hF
  have FRS := Lib.hid hS
  have SE := Lib.hid hS.nrm.el
  have BL := Lib.hid (hF.at_.four hS.nrm.el)
  clear hF hS FI
  go_wp2_with fail
  refine (NR.out _).mono ?_
  rintro e w3 ⟨Lr0, rfl, hg, hn4, k3⟩
  have HG := Lib.hid hg
  have HL3 := Lib.hid (HF.out.later k3)
  have LN : Hid (Lr0.n = 4) := hn4
  have S23 := Lib.hid k3.size
  have WB1 := Lib.hid HF.out.keeps.size
  have DJ := Lib.hid (show ∀ j, L.O j → ¬ Lr0.O j from fun j hj hr => by have a := HF.out.at_.lt j hj; have b := hg.low j hr; omega)
  have NEWF : Hid ((newF 4).steps = s.steps ∧ (newF 4).left = s.left ∧ (newF 4).dark = s.dark ∧ (newF 4).er = s.er) := ⟨FRS.out.st.symm, by
      have h1 := FRS.out.nrm.left
      have h2 := HF.out.at_.lm
      show (-1 : Int) = s.left
      omega, FRS.out.nrm.dark.symm, by
      have h1 := SE.out
      have h2 := FRS.out.er
      show [0, 0, 0, 0] = s.er
      match hse : s.er, h1 with
      | [a, b, c, d], _ =>
        have e0 := h2 0
        have e1 := h2 1
        have e2 := h2 2
        have e3 := h2 3
        rw [hse] at e0 e1 e2 e3
        simp only [List.getD_cons_zero, List.getD_cons_succ] at e0 e1 e2 e3
        rw [e0, e1, e2, e3]⟩
  generalize w1.heap.size = B0 at *
  generalize w2.heap.size = B1 at *
  clear hg hn4 k3 HF NR
  have hpk : s.peekF 0 4096 = s.b := by
    have := peek_eq (s := s) (a := 0) (n := 4096) (X := s.b) (by rw [BL.out]; decide) BL.out (fun i _ => by rw [Nat.zero_add])
    exact this
  have PK := Lib.hid (lpeek HL3.out 0 4096)
  rw [hpk] at PK
  clear hpk
  go_wp2_with fail
  refine PK.out.mono ?_
  rintro e w4 ⟨v4, rfl, o4, k4⟩
  obtain ⟨A4, c4, rfl, -⟩ := slice_of_own o4
  rw [BL.out] at o4 ⊢
  obtain ⟨g4, rfl, hg4, hg5, -, -, -, -, -⟩ := o4.at_ (k := 0) (by decide)
  have G4 := Lib.hid (HG.out.later k4)
  have L4 := Lib.hid (HL3.out.later k4)
  have HN : Hid (Lr0.N = 4096) := by show _ = _; have h1 := HG.out.nN; have h2 := LN.out; omega
  have NG : Hid (¬ Lr0.O g4) := fun hO => by have := HG.out.lt g4 hO; omega
  have NG2 : Hid (¬ L.O g4) := fun hO => by have := HL3.out.at_.lt g4 hO; omega
  have hset : RAt (w4.setCell ⟨Lr0.bf, 0, none⟩ (.slice (some ⟨g4, 0, none⟩) 4096 c4)) B1 { Lr0 with gb := g4, capb := c4 } s :=
    G4.out.setB ((Keeps.self Lr0.bf w4).put 0 _) (by rw [HN.out]) (by rw [HN.out]; exact o4.lower (Nat.le_trans (Nat.le_of_eq rfl) S23.out)) NG.out NEWF.out.1.symm NEWF.out.2.1.symm NEWF.out.2.2.1.symm NEWF.out.2.2.2.symm (by show (-1 : Int) < 0; decide)
  have lset : LF W (w4.setCell ⟨Lr0.bf, 0, none⟩ (.slice (some ⟨g4, 0, none⟩) 4096 c4)) B0 q L s :=
    ⟨L4.out.at_.keeps ((Keeps.self Lr0.bf w4).put 0 _) (fun j hj e => DJ.out j hj (.inl (.inl e))), L4.out.keeps.trans ((Keeps.self Lr0.bf w4).put 0 _) (fun _ h => h) (fun i hi e => by have h1 := HG.out.bB; have h2 := WB1.out; omega), L4.out.le, L4.out.q⟩
  have DJ2 : Hid (∀ j, L.O j → ¬ RL.O { Lr0 with gb := g4, capb := c4 } j) := fun j hj hr => by
    rcases hr with (h1 | h1 | h1) | h1
    · exact DJ.out j hj (.inl (.inl h1))
    · have e : j = g4 := h1
      subst e; exact NG2.out hj
    · exact DJ.out j hj (.inl (.inr (.inr h1)))
    · exact DJ.out j hj (.inr h1)
  have c0 := G4.out.f.cellD 0 _ rfl
  have z0 := G4.out.f.frozen 0
  have HS := Lib.hid hset
  have LS := Lib.hid lset
  obtain ⟨Lr, hLr⟩ : ∃ x, ({ Lr0 with gb := g4, capb := c4 } : RL) = x := ⟨_, rfl⟩
  have GQ : Hid (Lr.bf = Lr0.bf) := by show _ = _; rw [← hLr]
  have LN4 : Hid (Lr.n = 4) := by show _ = _; rw [← hLr]; exact LN.out
  rw [hLr] at HS DJ2
  generalize Lr0.bf = qr at *
  clear hset lset o4 k4 hg4 hg5 G4 L4 HN NG NG2 DJ HG HL3 LN hLr NEWF PK
  go_wp2_with fail
  obtain ⟨w5, hw5⟩ : ∃ x, w4.setCell ⟨qr, 0, none⟩ (.slice (some ⟨g4, 0, none⟩) 4096 c4) = x := ⟨_, rfl⟩
  rw [hw5] at HS LS
  rw [hw5]
  clear hw5 c0 z0
  refine (lgof LS.out 1 3).mono ?_
  rw [SE.out, ofF_yes (show someB 1 3 ((4 : Nat) : Int) = true from rfl), Int.zero_add]
  rintro e w6 ⟨rfl, k6⟩
  have LS6 := Lib.hid ((LS.out.later k6).alloc (.cells #[.pointer (some ⟨q, 0, none⟩), .int .i64 1, .int .i64 3] 27))
  have HS6 := Lib.hid ((HS.out.later k6).alloc (.cells #[.pointer (some ⟨q, 0, none⟩), .int .i64 1, .int .i64 3] 27))
  have R6 := Lib.hid (Blk.new w6 [.pointer (some ⟨q, 0, none⟩), .int .i64 1, .int .i64 3] 27)
  clear k6 LS HS
  go_wp2_with fail
  refine (rgof_any B1 Lr s qr 1 3 _ HS6.out GQ.out).mono ?_
  rw [LN4.out, ofF_yes (show someB 1 3 ((4 : Nat) : Int) = true from rfl), Int.zero_add]
  rintro e w7 ⟨rfl, k7⟩
  have LS7 := Lib.hid ((LS6.out.later k7).alloc (.cells #[.pointer (some ⟨qr, 0, none⟩), .int .i64 1, .int .i64 3] 66))
  have HS7 := Lib.hid ((HS6.out.later k7).alloc (.cells #[.pointer (some ⟨qr, 0, none⟩), .int .i64 1, .int .i64 3] 66))
  have R7 := Lib.hid ((k7.blk R6.out (fun h => h)).alloc (.cells #[.pointer (some ⟨qr, 0, none⟩), .int .i64 1, .int .i64 3] 66))
  have S7 := Lib.hid (Blk.new w7 [.pointer (some ⟨qr, 0, none⟩), .int .i64 1, .int .i64 3] 66)
  clear k7 LS6 HS6 R6
  generalize w6.heap.size = pb at *
  have x0 := R7.out.cellD 0 _ rfl
  have x1 := R7.out.cellD 1 _ rfl
  have x2 := R7.out.cellD 2 _ rfl
  rcases new_sim (f := 1) (c := 3) (Sim.self s) from_ with ⟨ek, hek, hp1, hp2⟩ | ⟨k, kr, hp1, hp2, hcs⟩
  · have NK := Lib.hid (fun w h => lknew (W := W) (w := w) (B := B0) (q := q) (L := L) (s := s) (f := 1) (c := 3) h (by rw [SE.out]; decide) from_)
    have NR := Lib.hid (fun w h1 h2 => rknew_any B1 Lr s qr 1 3 from_ w h1 GQ.out (by rw [LN4.out]; decide) h2)
    rw [hp1] at NK
    rw [hp2] at NR
    have hek2 : (ek == 0) = false := by simp [hek]
    have hek3 : (ek != 0) = true := by simp [hek]
    clear hp1 hp2 hek
    go_wp2_with fail
    refine (NK.out _ LS7.out).mono ?_
    rintro e w8 ⟨rfl, k8⟩
    have LS8 := Lib.hid (LS7.out.later k8)
    have HS8 := Lib.hid (HS7.out.later k8)
    have S8 := Lib.hid (k8.blk S7.out (fun h => h))
    clear k8 x0 x1 x2 LS7 HS7 S7 R7
    generalize w7.heap.size = sb at *
    have x0 := S8.out.cellD 0 _ rfl
    have x1 := S8.out.cellD 1 _ rfl
    have x2 := S8.out.cellD 2 _ rfl
    go_wp2_with fail
    refine (NR.out _ HS8.out (by have h1 := HS8.out.lt _ (.inl (.inl rfl)); have h2 := HS8.out.bB; omega)).mono ?_
    rintro e w9 ⟨rfl, k9⟩
    have LS9 := Lib.hid (LS8.out.later k9)
    have HS9 := Lib.hid (HS8.out.later k9)
    clear k9 x0 x1 x2 LS8 HS8 S8 NR NK
    have x0 := HS9.out.f.cellD 0 _ rfl
    have HN : Hid (Lr.N = 4096) := by show _ = _; have h1 := HS9.out.nN; have h2 := LN4.out; omega
    rw [HN.out, GQ.out] at x0
    go_wp2_with fail
    refine (num4_any _ _).mono ?_
    rintro e w' ⟨rfl, rfl⟩
    go_wp2
    clear x0
    go_loopw [18] (fun iv wr => iv = .int .i64 0 ∧ LF W wr B0 q L s ∧ RAt wr B1 Lr s) (fun _ _ => 0)
    case atStart => exact ⟨rfl, LS9.out, HS9.out⟩
    case round =>
      obtain ⟨rfl, hl, hr⟩ := hrel
      have LFW := Lib.hid hl
      have RAW := Lib.hid hr
      have SX := Lib.hid (Sim.self s)
      obtain ⟨wv, rfl⟩ : ∃ x, x = wr := ⟨_, rfl⟩
      clear hl hr LS9 HS9
      by_cases hm : 0 < m
      ·
        -- LFW.out LF at wv, RAW.out RAt at wv (as a term of w')
        obtain ⟨gb, capb, hTB⟩ := RAt.told B1 Lr s (q := qr) (N := 4096) (zs := s.b) GQ.out SX.out.b BL.out
        have TB := Lib.hid hTB
        have hpk : s.peekF 0 4096 = s.b := by
          have := peek_eq (s := s) (a := 0) (n := 4096) (X := s.b) (by rw [BL.out]; decide) BL.out (fun i _ => by rw [Nat.zero_add])
          exact this
        have PK := Lib.hid (fun w' (h' : LF W w' B0 q L s) => lpeek h' 0 4096)
        rw [hpk] at PK
        obtain ⟨sz, hsz⟩ : ∃ sz, strOf s.b = sz := ⟨_, rfl⟩
        have HSZ := Lib.hid hsz
        have qz : (sz.toList == sz.toList) = true := by simp
        have LFX := Lib.hid (LFW.out)
        have RAX := Lib.hid (RAW.out)
        clear hTB hpk hsz
        go_wp2
        obtain ⟨mtS, mth⟩ : ∃ S : World → Prop, ∀ w', S w' ↔ (w'.cell? ⟨qr, 0, none⟩ = some (.slice (some ⟨gb, 0, none⟩) 4096 capb) ∧ ((convert 22 9 (.slice (some ⟨gb, 0, none⟩) 4096 capb)).run Try.prog w' = .ok (.string sz) w')) := ⟨_, fun _ => Iff.rfl⟩
        have mtk0 : ∀ x : Memb mtS, x.at_.cell? ⟨qr, 0, none⟩ = some (.slice (some ⟨gb, 0, none⟩) 4096 capb) := fun x => ((mth _).1 x.is).1
        have mtk1 : ∀ x : Memb mtS, (convert 22 9 (.slice (some ⟨gb, 0, none⟩) 4096 capb)).run Try.prog x.at_ = .ok (.string sz) x.at_ := fun x => ((mth _).1 x.is).2
        have mtn : Nonempty (Memb mtS) := ⟨⟨(wv).drew, (mth _).2 ⟨(TB.out _ RAX.out.drew).1, (HSZ.out ▸ run_str (TB.out _ RAX.out.drew).2)⟩⟩⟩
        have mtH := Lib.hid mth
        clear mth
        refine wp_region_mix [1, 2] (InS mtS) (by kernel_rfl) (by kernel_rfl) (InS.mk ((mtH.out _).2 ⟨(TB.out _ RAX.out.drew).1, (HSZ.out ▸ run_str (TB.out _ RAX.out.drew).2)⟩)) ?_
        refine wpMix_seg 1 (by kernel_rfl) (by decide) ?_
        simp only [List.take_succ_cons, List.take_zero, List.drop_succ_cons, List.drop_zero]
        repeat (first | go_big_quiet_step (fail) | (go_big_quiet_want; first | refine quiet_conv mtk1 rfl rfl rfl (by simp only [Act.put, List.setIfInBounds_toArray, List.set_cons_succ, List.set_cons_zero]; rfl) ?_; go_big_quiet_on))
        refine wpQuiet_nil ?_
        refine wpMix_eff (by kernel_rfl) ?_
        go_wp2_with fail
        refine (PK.out _ (LFX.out.later (Keeps.refl None wv).drew)).mono ?_
        rintro e w8 ⟨v8, rfl, o8, k8⟩
        obtain ⟨A8, c8, rfl, b8⟩ := slice_of_own o8
        rw [BL.out] at b8 ⊢
        have LF8 := Lib.hid ((LFX.out.later (Keeps.refl None wv).drew).later k8)
        have RA8 := Lib.hid (RAX.out.drew.later k8)
        have sd := run_str b8
        rw [HSZ.out] at sd
        clear o8 b8 k8
        go_wp2
        refine MixK.on (InS.mk ((mtH.out _).2 (⟨(TB.out _ RA8.out).1, HSZ.out ▸ run_str (TB.out _ RA8.out).2⟩))) ?_
        refine wpMix_eff (by kernel_rfl) ?_
        go_wp2
        refine MixK.on (InS.mk ((mtH.out _).2 (⟨(TB.out _ RA8.out).1, HSZ.out ▸ run_str (TB.out _ RA8.out).2⟩))) ?_
        refine wpMix_seg 7 (by kernel_rfl) (by decide) ?_
        simp only [List.take_succ_cons, List.take_zero, List.drop_succ_cons, List.drop_zero]
        repeat (first | go_big_quiet_step (fail) | (go_big_quiet_want; first | refine quiet_conv mtk1 rfl rfl rfl (by simp only [Act.put, List.setIfInBounds_toArray, List.set_cons_succ, List.set_cons_zero]; rfl) ?_; go_big_quiet_on))
        refine wpQuiet_nil ?_
        refine wpMix_nil ?_
        clear mtk0 mtk1 mtn mtH
        go_wp2
        go_ret
        exact ⟨by first | rfl | simp, LF8.out.keeps.below (fun _ _ h => h)⟩
      ·
        -- LFW.out LF at wv, RAW.out RAt at wv (as a term of w')
        obtain ⟨gb, capb, hTB⟩ := RAt.told B1 Lr s (q := qr) (N := 4096) (zs := s.b) GQ.out SX.out.b BL.out
        have TB := Lib.hid hTB
        have hpk : s.peekF 0 4096 = s.b := by
          have := peek_eq (s := s) (a := 0) (n := 4096) (X := s.b) (by rw [BL.out]; decide) BL.out (fun i _ => by rw [Nat.zero_add])
          exact this
        have PK := Lib.hid (fun w' (h' : LF W w' B0 q L s) => lpeek h' 0 4096)
        rw [hpk] at PK
        obtain ⟨sz, hsz⟩ : ∃ sz, strOf s.b = sz := ⟨_, rfl⟩
        have HSZ := Lib.hid hsz
        have qz : (sz.toList == sz.toList) = true := by simp
        have LFX := Lib.hid (LFW.out)
        have RAX := Lib.hid (RAW.out)
        clear hTB hpk hsz
        go_wp2
        obtain ⟨mtS, mth⟩ : ∃ S : World → Prop, ∀ w', S w' ↔ (w'.cell? ⟨qr, 0, none⟩ = some (.slice (some ⟨gb, 0, none⟩) 4096 capb) ∧ ((convert 22 9 (.slice (some ⟨gb, 0, none⟩) 4096 capb)).run Try.prog w' = .ok (.string sz) w')) := ⟨_, fun _ => Iff.rfl⟩
        have mtk0 : ∀ x : Memb mtS, x.at_.cell? ⟨qr, 0, none⟩ = some (.slice (some ⟨gb, 0, none⟩) 4096 capb) := fun x => ((mth _).1 x.is).1
        have mtk1 : ∀ x : Memb mtS, (convert 22 9 (.slice (some ⟨gb, 0, none⟩) 4096 capb)).run Try.prog x.at_ = .ok (.string sz) x.at_ := fun x => ((mth _).1 x.is).2
        have mtn : Nonempty (Memb mtS) := ⟨⟨(wv).drew, (mth _).2 ⟨(TB.out _ RAX.out.drew).1, (HSZ.out ▸ run_str (TB.out _ RAX.out.drew).2)⟩⟩⟩
        have mtH := Lib.hid mth
        clear mth
        refine wp_region_mix [1, 2] (InS mtS) (by kernel_rfl) (by kernel_rfl) (InS.mk ((mtH.out _).2 ⟨(TB.out _ RAX.out.drew).1, (HSZ.out ▸ run_str (TB.out _ RAX.out.drew).2)⟩)) ?_
        refine wpMix_seg 1 (by kernel_rfl) (by decide) ?_
        simp only [List.take_succ_cons, List.take_zero, List.drop_succ_cons, List.drop_zero]
        repeat (first | go_big_quiet_step (fail) | (go_big_quiet_want; first | refine quiet_conv mtk1 rfl rfl rfl (by simp only [Act.put, List.setIfInBounds_toArray, List.set_cons_succ, List.set_cons_zero]; rfl) ?_; go_big_quiet_on))
        refine wpQuiet_nil ?_
        refine wpMix_eff (by kernel_rfl) ?_
        go_wp2_with fail
        refine (PK.out _ (LFX.out.later (Keeps.refl None wv).drew)).mono ?_
        rintro e w8 ⟨v8, rfl, o8, k8⟩
        obtain ⟨A8, c8, rfl, b8⟩ := slice_of_own o8
        rw [BL.out] at b8 ⊢
        have LF8 := Lib.hid ((LFX.out.later (Keeps.refl None wv).drew).later k8)
        have RA8 := Lib.hid (RAX.out.drew.later k8)
        have sd := run_str b8
        rw [HSZ.out] at sd
        clear o8 b8 k8
        go_wp2
        refine MixK.on (InS.mk ((mtH.out _).2 (⟨(TB.out _ RA8.out).1, HSZ.out ▸ run_str (TB.out _ RA8.out).2⟩))) ?_
        refine wpMix_eff (by kernel_rfl) ?_
        go_wp2
        refine MixK.on (InS.mk ((mtH.out _).2 (⟨(TB.out _ RA8.out).1, HSZ.out ▸ run_str (TB.out _ RA8.out).2⟩))) ?_
        refine wpMix_seg 7 (by kernel_rfl) (by decide) ?_
        simp only [List.take_succ_cons, List.take_zero, List.drop_succ_cons, List.drop_zero]
        repeat (first | go_big_quiet_step (fail) | (go_big_quiet_want; first | refine quiet_conv mtk1 rfl rfl rfl (by simp only [Act.put, List.setIfInBounds_toArray, List.set_cons_succ, List.set_cons_zero]; rfl) ?_; go_big_quiet_on))
        refine wpQuiet_nil ?_
        refine wpMix_nil ?_
        clear mtk0 mtk1 mtn mtH
        go_wp2
        go_ret
        exact ⟨by first | rfl | simp, LF8.out.keeps.below (fun _ _ h => h)⟩
  · have NK := Lib.hid (fun w h => lknew (W := W) (w := w) (B := B0) (q := q) (L := L) (s := s) (f := 1) (c := 3) h (by rw [SE.out]; decide) from_)
    have NR := Lib.hid (fun w h1 h2 => rknew_any B1 Lr s qr 1 3 from_ w h1 GQ.out (by rw [LN4.out]; decide) h2)
    rw [hp1] at NK
    rw [hp2] at NR
    have CS := Lib.hid hcs
    clear hp1 hp2 hcs
    go_wp2_with fail
    refine (NK.out _ LS7.out).mono ?_
    rintro e w8 ⟨cb, rfl, h8, c8, k8⟩
    have LK8 := Lib.hid h8
    have HS8 := Lib.hid (HS7.out.later k8)
    have S8 := Lib.hid (k8.blk S7.out (fun h => h))
    have CB8 : Hid (¬ Lr.O cb) := fun hO => by have := HS7.out.lt cb hO; omega
    clear h8 k8 c8 x0 x1 x2 LS7 HS7 S7 R7
    generalize w7.heap.size = sb at *
    have x0 := S8.out.cellD 0 _ rfl
    have x1 := S8.out.cellD 1 _ rfl
    have x2 := S8.out.cellD 2 _ rfl
    go_wp2_with fail
    refine (NR.out _ HS8.out (by have h1 := HS8.out.lt _ (.inl (.inl rfl)); have h2 := HS8.out.bB; omega)).mono ?_
    rintro e w9 ⟨K, rfl, h9, n9, a9, k9⟩
    have HFR : FRC W w9 B0 q L s cb 1 3 k B1 qr Lr s K kr := ⟨LK8.out.later k9, h9, WB1.out, fun j hj hR => by
      have hlt : j < w8.heap.size := by
        rcases hj with hj | rfl
        · exact LK8.out.kat.fl.lt j hj
        · exact LK8.out.kat.cell.lt
      rcases hR with h1 | h1 | ⟨h0, off, e⟩
      · rcases hj with hj | rfl
        · exact DJ2.out j hj h1
        · exact CB8.out h1
      · have := n9 j h1; omega
      · have := a9 j off h0 e; omega⟩
    have P5 : Hid (PX W w9 B0 q L s cb k B1 qr Lr s K kr (m * 300000)) := ⟨HFR, Sim.self s, CS.out, FRS.out.roomX.less (by omega), SE.out⟩
    clear HFR h9 n9 a9 k9 x0 x1 x2 LK8 HS8 S8 NR NK DJ2 CB8
    have x0 := P5.out.h.rf.fl.f.cellD 0 _ rfl
    have HN : Hid (Lr.N = 4096) := by show _ = _; have h1 := P5.out.h.rf.fl.nN; have h2 := LN4.out; omega
    rw [HN.out, GQ.out] at x0
    obtain ⟨kb, rb, eb, A5, cap5⟩ := K
    go_wp2_with fail
    refine (num4_any _ _).mono ?_
    rintro e w' ⟨rfl, rfl⟩
    clear BL GQ SE CS FRS LN4
    -- the rounds, from PX at w5 (P5)
    go_wp2
    go_loopw [18] (fun iv wr => ∃ (j : Nat) (s : FS) (k : KS) (L : FL) (r : FS) (Lr : RL) (kr : RS) (A1 : Option Addr) (cap1 : Nat), j ≤ m ∧ iv = .int .i64 j ∧ PX W wr B0 q L s cb k B1 qr Lr r ⟨kb, rb, eb, A1, cap1⟩ kr ((m - j) * 300000)) (fun iv _ => m - (intOf iv).toNat)
    case atStart => exact ⟨0, s, k, L, s, Lr, kr, A5, cap5, Nat.zero_le _, rfl, P5.out.less (by omega)⟩
    case round =>
      obtain ⟨j, s, k, L, r, Lr, kr, A1, cap1, hj, rfl, hp⟩ := hrel
      have PR := Lib.hid hp
      obtain ⟨wv, rfl⟩ : ∃ x, x = wr := ⟨_, rfl⟩
      clear hp P5
      by_cases hlt : j < m
      · have hmj : (m - j) * 300000 = (m - (j + 1)) * 300000 + 300000 := by omega
        obtain ⟨mm, hmm⟩ : ∃ x, (m - (j + 1)) * 300000 = x := ⟨_, rfl⟩
        have HMM := Lib.hid hmm
        rw [hmm] at hmj
        have P := Lib.hid (show PX W wv B0 q L s cb k B1 qr Lr r ⟨kb, rb, eb, A1, cap1⟩ kr (mm + 300000) from hmj ▸ PR.out)
        clear hmm
        obtain ⟨bl, off, rfl, y0, y1, y2, yb⟩ := HAC.out.cells P.out.h.keeps hlt
        have FX := Lib.hid (HAC.out.at_ j hlt).b
        have FN := Lib.hid (HAC.out.at_ j hlt).nb
        have FBJ := Lib.hid (FB.out j hlt)
        have YC := Lib.hid (show ∀ w', Keeps None W w' → w'.cell? ⟨bl, off + j * 3, none⟩ = some (.int .i64 (F j).k) ∧ w'.cell? ⟨bl, off + j * 3 + 1, none⟩ = some (.int .i64 (F j).n) ∧ w'.cell? ⟨bl, off + j * 3 + 2, none⟩ = some (.slice (F j).A (F j).l (F j).c) from fun w' hk => by
          obtain ⟨b', o', e', h1, h2, h3, -⟩ := HAC.out.cells hk hlt
          cases e'
          exact ⟨h1, h2, h3⟩)
        generalize (F j).k = fk at *
        generalize (F j).n = fn at *
        generalize (F j).A = fA at *
        generalize (F j).l = fl at *
        generalize (F j).c = fc at *
        generalize (F j).zs = fz at *
        have YB := Lib.hid yb
        have FL := Lib.hid yb.len
        have hle := yb.le
        have hmx := yb.max
        have fl9 := FBJ.out
        have FZ : Hid (fz.length ≤ 1100) := by show _ ≤ _; rw [FL.out]; exact fl9
        clear yb hmj
        by_cases q1 : fk = 1
        · subst q1
          have WE := Lib.hid (P.out.werr FZ.out)
          have PF := Lib.hid (fun w4 L3 Lr4 A4 cap4 h4 => P.out.write (w' := w4) (L' := L3) (Lr' := Lr4) (K' := ⟨kb, rb, eb, A4, cap4⟩) FZ.out h4)
          have WC := Lib.hid (fun w2 A2 c2 (h : FRC W w2 B0 q L s cb 1 3 k B1 qr Lr r ⟨kb, rb, eb, A1, cap1⟩ kr) (hb : KB w2 L cb A2 fl c2 fz) => lkwrite h.pf P.out.cs.h7 hb (P.out.rm.less (by omega)))
          have RW := Lib.hid (fun w3 L3 s3 k3 (h : FRC W w3 B0 q L3 s3 cb 1 3 k3 B1 qr Lr r ⟨kb, rb, eb, A1, cap1⟩ kr) => rkwrite_any B1 Lr r ⟨kb, rb, eb, A1, cap1⟩ qr 1 3 kr fA fl fc fz w3 h.rf P.out.cs.r7 (RKB.arg FX.out h) (P.out.sm.room (P.out.rm.less (by omega))))
          generalize writeK 1 3 s k fz = pw at *
          generalize rwrite 1 3 r kr fz = pr at *
          obtain ⟨sx, kx, ex⟩ := pw
          obtain ⟨rx, krx, er⟩ := pr
          simp only [] at WE PF WC RW
          obtain rfl : er = ex := WE.out
          -- the copy of the call's bytes
          go_wp2_with (at_builtin; refine Hid.out ?_)
          refine Lib.hid ?_
          refine wpList_append_bs (Own.nil _ wv.heap.size) YB.out (by simp; omega) (Nat.le_refl _) rfl rfl rfl rfl rfl ?_
          intro v2 w2 ho2 hk2
          rw [List.nil_append] at ho2
          have K2 : Hid (Keeps None wv w2) := hk2.mono (fun i hi e => by simp [Value.ownBlock] at e)
          obtain ⟨A2, c2, rfl, bs2, -⟩ := ho2.shape
          rw [FL.out] at ho2 bs2 ⊢
          have H2 := Lib.hid (P.out.h.later K2.out)
          have O2 := Lib.hid ho2
          have BS2 := Lib.hid bs2
          have hle2 := bs2.le
          have hmx2 := bs2.max
          clear ho2 hk2 bs2
          have x0 := (YC.out _ H2.out.keeps).1
          have x1 := (YC.out _ H2.out.keeps).2.1
          have x2 := (YC.out _ H2.out.keeps).2.2
          clear y0 y1 y2
          go_wp2
          obtain ⟨m1S, m1h⟩ : ∃ S : World → Prop, ∀ w', S w' ↔ (w'.cell? ⟨bl, off + j * 3 + 2, none⟩ = some (.slice fA fl fc)) := ⟨_, fun _ => Iff.rfl⟩
          have m1k0 : ∀ x : Memb m1S, x.at_.cell? ⟨bl, off + j * 3 + 2, none⟩ = some (.slice fA fl fc) := fun x => ((m1h _).1 x.is)
          have m1n : Nonempty (Memb m1S) := ⟨⟨(w2).drew, (m1h _).2 ((YC.out _ H2.out.drew.keeps).2.2)⟩⟩
          have m1H := Lib.hid m1h
          clear m1h
          refine wp_region_mix [2, 3, 10] (InS m1S) (by kernel_rfl) (by kernel_rfl) (InS.mk ((m1H.out _).2 ((YC.out _ H2.out.drew.keeps).2.2))) ?_
          refine wpMix_seg 2 (by kernel_rfl) (by decide) ?_
          simp only [List.take_succ_cons, List.take_zero, List.drop_succ_cons, List.drop_zero]
          repeat (go_big_quiet_step (fail))
          refine wpQuiet_nil ?_
          refine wpMix_eff (by kernel_rfl) ?_
          go_wp2_with fail
          refine (WC.out _ A2 c2 H2.out.drew (KB.later (KB.new (P.out.h.pf) O2.out) (Keeps.refl None w2).drew)).mono ?_
          rintro e w3 ⟨rfl, L3, h3, l3⟩
          have H3 := Lib.hid (H2.out.drew.turnK h3 l3)
          clear h3 l3
          go_wp2
          refine MixK.on (InS.mk ((m1H.out _).2 ((YC.out _ H3.out.keeps).2.2))) ?_
          refine wpMix_eff (by kernel_rfl) ?_
          go_wp2_with fail
          refine (num4_any _ _).mono ?_
          rintro e w' ⟨rfl, rfl⟩
          go_wp2
          refine MixK.on (InS.mk ((m1H.out _).2 ((YC.out _ H3.out.keeps).2.2))) ?_
          refine wpMix_seg 6 (by kernel_rfl) (by decide) ?_
          simp only [List.take_succ_cons, List.take_zero, List.drop_succ_cons, List.drop_zero]
          repeat (go_big_quiet_step (fail))
          refine wpQuiet_nil ?_
          refine wpMix_eff (by kernel_rfl) ?_
          go_wp2_with fail
          refine (RW.out _ L3 _ _ H3.out).mono ?_
          rintro e w4 ⟨rfl, Lrx, Ax, capx, h4, l4, ap4⟩
          have PP := Lib.hid (PF.out w4 L3 Lrx Ax capx (H3.out.turnH h4 l4 ap4))
          clear h4 l4 ap4
          go_wp2
          refine MixK.on (InS.mk ((m1H.out _).2 ((YC.out _ PP.out.h.keeps).2.2))) ?_
          refine wpMix_seg 2 (by kernel_rfl) (by decide) ?_
          simp only [List.take_succ_cons, List.take_zero, List.drop_succ_cons, List.drop_zero]
          repeat (go_big_quiet_step (fail))
          refine wpQuiet_nil ?_
          refine wpMix_nil ?_
          clear m1k0 m1n m1H
          obtain ⟨Lx, hLx⟩ : ∃ x, L3 = x := ⟨_, rfl⟩
          rw [hLx] at PP
          clear hLx H3 H2 x0 x1 x2 PF WC RW WE O2 BS2
          -- the comparison behind a call, from PP : Hid (PX ..) at the world w4; the round's end
          obtain ⟨wv, hwv⟩ : ∃ x, w4 = x := ⟨_, rfl⟩
          rw [hwv] at PP
          rw [hwv]
          clear hwv
          have HX := Lib.hid PP.out.h
          have SX := Lib.hid PP.out.sm
          have CX := Lib.hid PP.out.cs
          obtain ⟨a1, ha1⟩ : ∃ x, KS.at_ kx = x := ⟨_, rfl⟩
          obtain ⟨hd, hhd⟩ : ∃ x, (KS.word kx).take (KS.n kx) = x := ⟨_, rfl⟩
          obtain ⟨nh, hnh⟩ : ∃ x, hd.length = x := ⟨_, rfl⟩
          obtain ⟨st, hst⟩ : ∃ x, FS.steps sx = x := ⟨_, rfl⟩
          have RC := Lib.hid (show ∀ w', FRC W w' B0 q Lx sx cb 1 3 kx B1 qr Lrx rx ⟨kb, rb, eb, Ax, capx⟩ krx → w'.cell? ⟨kb, 3, none⟩ = some (.int .i64 a1) ∧ w'.cell? ⟨kb, 4, none⟩ = some (.slice Ax nh capx) ∧ w'.cell? ⟨qr, 2, none⟩ = some (.int .i64 st) ∧ Bs w' Ax nh capx hd from fun w' h => by
            have e1 := h.rf.cell.cellD 3 _ rfl
            have e2 := h.rf.cell.cellD 4 _ rfl
            have e3 := h.rf.fl.f.cellD 2 _ rfl
            have e4 := h.rf.held
            rw [CX.out.at_, ha1] at e1
            rw [CX.out.held, hhd, hnh] at e2 e4
            rw [SX.out.steps, hst, h.rf.hq] at e3
            exact ⟨e1, e2, e3, e4⟩)
          have KAT := Lib.hid (fun w' (h : FRC W w' B0 q Lx sx cb 1 3 kx B1 qr Lrx rx ⟨kb, rb, eb, Ax, capx⟩ krx) => lkat h.pf)
          have KHD := Lib.hid (fun w' (h : FRC W w' B0 q Lx sx cb 1 3 kx B1 qr Lrx rx ⟨kb, rb, eb, Ax, capx⟩ krx) => lkheld h.pf)
          have STP := Lib.hid (fun w' (h : FRC W w' B0 q Lx sx cb 1 3 kx B1 qr Lrx rx ⟨kb, rb, eb, Ax, capx⟩ krx) => lsteps h.pf.lf)
          rw [ha1] at KAT
          rw [hhd] at KHD
          rw [hst] at STP
          have NH := Lib.hid hnh
          obtain ⟨sh, hsh⟩ : ∃ x, strOf hd = x := ⟨_, rfl⟩
          have SH := Lib.hid hsh
          have qsh : (sh.toList == sh.toList) = true := by simp
          clear hsh hnh ha1 hhd hst
          go_wp2
          obtain ⟨mcS, mch⟩ : ∃ S : World → Prop, ∀ w', S w' ↔ (w'.cell? ⟨kb, 3, none⟩ = some (.int .i64 a1) ∧ w'.cell? ⟨kb, 4, none⟩ = some (.slice Ax nh capx) ∧ w'.cell? ⟨qr, 2, none⟩ = some (.int .i64 st) ∧ ((convert 22 9 (.slice Ax nh capx)).run Try.prog w' = .ok (.string sh) w')) := ⟨_, fun _ => Iff.rfl⟩
          have mck0 : ∀ x : Memb mcS, x.at_.cell? ⟨kb, 3, none⟩ = some (.int .i64 a1) := fun x => ((mch _).1 x.is).1
          have mck1 : ∀ x : Memb mcS, x.at_.cell? ⟨kb, 4, none⟩ = some (.slice Ax nh capx) := fun x => ((mch _).1 x.is).2.1
          have mck2 : ∀ x : Memb mcS, x.at_.cell? ⟨qr, 2, none⟩ = some (.int .i64 st) := fun x => ((mch _).1 x.is).2.2.1
          have mck3 : ∀ x : Memb mcS, (convert 22 9 (.slice Ax nh capx)).run Try.prog x.at_ = .ok (.string sh) x.at_ := fun x => ((mch _).1 x.is).2.2.2
          have mcn : Nonempty (Memb mcS) := ⟨⟨(wv).drew, (mch _).2 ⟨(RC.out _ HX.out.drew).1, (RC.out _ HX.out.drew).2.1, (RC.out _ HX.out.drew).2.2.1, (SH.out ▸ run_str (RC.out _ HX.out.drew).2.2.2)⟩⟩⟩
          have mcH := Lib.hid mch
          clear mch
          refine wp_region_mix [4, 13, 14, 24] (InS mcS) (by kernel_rfl) (by kernel_rfl) (InS.mk ((mcH.out _).2 ⟨(RC.out _ HX.out.drew).1, (RC.out _ HX.out.drew).2.1, (RC.out _ HX.out.drew).2.2.1, (SH.out ▸ run_str (RC.out _ HX.out.drew).2.2.2)⟩)) ?_
          refine wpMix_seg 4 (by kernel_rfl) (by decide) ?_
          simp only [List.take_succ_cons, List.take_zero, List.drop_succ_cons, List.drop_zero]
          repeat (first | go_big_quiet_step (fail) | (go_big_quiet_want; first | refine quiet_conv mck3 rfl rfl rfl (by simp only [Act.put, List.setIfInBounds_toArray, List.set_cons_succ, List.set_cons_zero]; rfl) ?_; go_big_quiet_on))
          refine wpQuiet_nil ?_
          refine wpMix_eff (by kernel_rfl) ?_
          go_wp2_with fail
          refine (KAT.out _ HX.out.drew).mono ?_
          rintro e w' ⟨rfl, rfl⟩
          go_wp2
          refine MixK.on (InS.mk ((mcH.out _).2 ⟨(RC.out _ HX.out.drew).1, (RC.out _ HX.out.drew).2.1, (RC.out _ HX.out.drew).2.2.1, (SH.out ▸ run_str (RC.out _ HX.out.drew).2.2.2)⟩)) ?_
          refine wpMix_seg 8 (by kernel_rfl) (by decide) ?_
          simp only [List.take_succ_cons, List.take_zero, List.drop_succ_cons, List.drop_zero]
          repeat (first | go_big_quiet_step (fail) | (go_big_quiet_want; first | refine quiet_conv mck3 rfl rfl rfl (by simp only [Act.put, List.setIfInBounds_toArray, List.set_cons_succ, List.set_cons_zero]; rfl) ?_; go_big_quiet_on))
          refine wpQuiet_nil ?_
          refine wpMix_eff (by kernel_rfl) ?_
          go_wp2_with fail
          refine (KHD.out _ HX.out.drew).mono ?_
          rintro e w8 ⟨v8, rfl, o8, k8⟩
          obtain ⟨A8, c8, rfl, b8⟩ := slice_of_own o8
          rw [NH.out] at b8 ⊢
          have H8 := Lib.hid (HX.out.drew.later k8)
          have P8 := Lib.hid (PP.out.drew.later k8)
          have sd := run_str b8
          rw [SH.out] at sd
          clear o8 b8 k8
          go_wp2
          refine MixK.on (InS.mk ((mcH.out _).2 (⟨(RC.out _ H8.out).1, (RC.out _ H8.out).2.1, (RC.out _ H8.out).2.2.1, SH.out ▸ run_str (RC.out _ H8.out).2.2.2⟩))) ?_
          refine wpMix_eff (by kernel_rfl) ?_
          go_wp2
          refine MixK.on (InS.mk ((mcH.out _).2 (⟨(RC.out _ H8.out).1, (RC.out _ H8.out).2.1, (RC.out _ H8.out).2.2.1, SH.out ▸ run_str (RC.out _ H8.out).2.2.2⟩))) ?_
          refine wpMix_seg 9 (by kernel_rfl) (by decide) ?_
          simp only [List.take_succ_cons, List.take_zero, List.drop_succ_cons, List.drop_zero]
          repeat (first | go_big_quiet_step (fail) | (go_big_quiet_want; first | refine quiet_conv mck3 rfl rfl rfl (by simp only [Act.put, List.setIfInBounds_toArray, List.set_cons_succ, List.set_cons_zero]; rfl) ?_; go_big_quiet_on))
          refine wpQuiet_nil ?_
          refine wpMix_eff (by kernel_rfl) ?_
          go_wp2_with fail
          refine (STP.out _ H8.out).mono ?_
          rintro e w' ⟨rfl, rfl⟩
          go_wp2
          refine MixK.on (InS.mk ((mcH.out _).2 (⟨(RC.out _ H8.out).1, (RC.out _ H8.out).2.1, (RC.out _ H8.out).2.2.1, SH.out ▸ run_str (RC.out _ H8.out).2.2.2⟩))) ?_
          refine wpMix_seg 6 (by kernel_rfl) (by decide) ?_
          simp only [List.take_succ_cons, List.take_zero, List.drop_succ_cons, List.drop_zero]
          repeat (first | go_big_quiet_step (fail) | (go_big_quiet_want; first | refine quiet_conv mck3 rfl rfl rfl (by simp only [Act.put, List.setIfInBounds_toArray, List.set_cons_succ, List.set_cons_zero]; rfl) ?_; go_big_quiet_on))
          refine wpQuiet_nil ?_
          refine wpMix_nil ?_
          clear mck0 mck1 mck2 mck3 mcn mcH
          go_wp2
          go_roundw
          case rel => exact ⟨j + 1, sx, kx, Lx, rx, Lrx, krx, Ax, capx, hlt, by go_num, by rw [HMM.out]; exact P8.out⟩
          case measure => simp [intOf]; omega
        have e1 : decide (fk = 1) = false := decide_eq_false q1
        by_cases q2 : fk = 2
        · subst q2
          have WE := Lib.hid P.out.ferr
          have PF := Lib.hid (fun w4 L3 Lr4 h4 => P.out.flush (w' := w4) (L' := L3) (Lr' := Lr4) (K' := ⟨kb, rb, eb, A1, cap1⟩) h4)
          have WC := Lib.hid (fun w2 (h : FRC W w2 B0 q L s cb 1 3 k B1 qr Lr r ⟨kb, rb, eb, A1, cap1⟩ kr) => lkflush h.pf (P.out.rm.less (by omega)))
          have RW := Lib.hid (fun w3 L3 s3 k3 (h : FRC W w3 B0 q L3 s3 cb 1 3 k3 B1 qr Lr r ⟨kb, rb, eb, A1, cap1⟩ kr) => rkflush_any B1 Lr r ⟨kb, rb, eb, A1, cap1⟩ qr 1 3 kr w3 h.rf P.out.cs.r7 (fun h0 => by have h1 := h.rf.al; have h2 := h.rf.na; omega) (P.out.sm.room (P.out.rm.less (by omega))))
          have RL := Lib.hid (congrArg List.length (rflush_st 1 3 r kr))
          generalize flushK 1 3 s k = pw at *
          generalize rflush 1 3 r kr = pr at *
          obtain ⟨sx, kx, ex⟩ := pw
          obtain ⟨rx, krx, er⟩ := pr
          simp only [] at WE PF WC RW RL
          obtain rfl : er = ex := WE.out
          -- the copy of the call's bytes
          go_wp2_with (at_builtin; refine Hid.out ?_)
          refine Lib.hid ?_
          refine wpList_append_bs (Own.nil _ wv.heap.size) YB.out (by simp; omega) (Nat.le_refl _) rfl rfl rfl rfl rfl ?_
          intro v2 w2 ho2 hk2
          rw [List.nil_append] at ho2
          have K2 : Hid (Keeps None wv w2) := hk2.mono (fun i hi e => by simp [Value.ownBlock] at e)
          obtain ⟨A2, c2, rfl, bs2, -⟩ := ho2.shape
          rw [FL.out] at ho2 bs2 ⊢
          have H2 := Lib.hid (P.out.h.later K2.out)
          have O2 := Lib.hid ho2
          have BS2 := Lib.hid bs2
          have hle2 := bs2.le
          have hmx2 := bs2.max
          clear ho2 hk2 bs2
          have x0 := (YC.out _ H2.out.keeps).1
          have x1 := (YC.out _ H2.out.keeps).2.1
          have x2 := (YC.out _ H2.out.keeps).2.2
          clear y0 y1 y2
          go_wp2_with fail
          refine (WC.out _ H2.out).mono ?_
          rintro e w3 ⟨rfl, Lx, h3, l3⟩
          have H3 := Lib.hid (H2.out.turnK h3 l3)
          clear h3 l3 x0 x1 x2
          go_wp2_with fail
          refine (num4_any _ _).mono ?_
          rintro e w' ⟨rfl, rfl⟩
          go_wp2_with fail
          refine (RW.out _ Lx _ _ H3.out).mono ?_
          rintro e w4 ⟨rfl, Lrx, h4, l4⟩
          have PP := Lib.hid (PF.out w4 Lx Lrx (H3.out.turnS h4 l4 RL.out))
          clear h4 l4 H3 H2 PF WC RW WE O2 BS2 RL
          obtain ⟨Ax, hAx⟩ : ∃ x, A1 = x := ⟨_, rfl⟩
          obtain ⟨capx, hcx⟩ : ∃ x, cap1 = x := ⟨_, rfl⟩
          rw [hAx, hcx] at PP
          clear hAx hcx
          -- the comparison behind a call, from PP : Hid (PX ..) at the world w4; the round's end
          obtain ⟨wv, hwv⟩ : ∃ x, w4 = x := ⟨_, rfl⟩
          rw [hwv] at PP
          rw [hwv]
          clear hwv
          have HX := Lib.hid PP.out.h
          have SX := Lib.hid PP.out.sm
          have CX := Lib.hid PP.out.cs
          obtain ⟨a1, ha1⟩ : ∃ x, KS.at_ kx = x := ⟨_, rfl⟩
          obtain ⟨hd, hhd⟩ : ∃ x, (KS.word kx).take (KS.n kx) = x := ⟨_, rfl⟩
          obtain ⟨nh, hnh⟩ : ∃ x, hd.length = x := ⟨_, rfl⟩
          obtain ⟨st, hst⟩ : ∃ x, FS.steps sx = x := ⟨_, rfl⟩
          have RC := Lib.hid (show ∀ w', FRC W w' B0 q Lx sx cb 1 3 kx B1 qr Lrx rx ⟨kb, rb, eb, Ax, capx⟩ krx → w'.cell? ⟨kb, 3, none⟩ = some (.int .i64 a1) ∧ w'.cell? ⟨kb, 4, none⟩ = some (.slice Ax nh capx) ∧ w'.cell? ⟨qr, 2, none⟩ = some (.int .i64 st) ∧ Bs w' Ax nh capx hd from fun w' h => by
            have e1 := h.rf.cell.cellD 3 _ rfl
            have e2 := h.rf.cell.cellD 4 _ rfl
            have e3 := h.rf.fl.f.cellD 2 _ rfl
            have e4 := h.rf.held
            rw [CX.out.at_, ha1] at e1
            rw [CX.out.held, hhd, hnh] at e2 e4
            rw [SX.out.steps, hst, h.rf.hq] at e3
            exact ⟨e1, e2, e3, e4⟩)
          have KAT := Lib.hid (fun w' (h : FRC W w' B0 q Lx sx cb 1 3 kx B1 qr Lrx rx ⟨kb, rb, eb, Ax, capx⟩ krx) => lkat h.pf)
          have KHD := Lib.hid (fun w' (h : FRC W w' B0 q Lx sx cb 1 3 kx B1 qr Lrx rx ⟨kb, rb, eb, Ax, capx⟩ krx) => lkheld h.pf)
          have STP := Lib.hid (fun w' (h : FRC W w' B0 q Lx sx cb 1 3 kx B1 qr Lrx rx ⟨kb, rb, eb, Ax, capx⟩ krx) => lsteps h.pf.lf)
          rw [ha1] at KAT
          rw [hhd] at KHD
          rw [hst] at STP
          have NH := Lib.hid hnh
          obtain ⟨sh, hsh⟩ : ∃ x, strOf hd = x := ⟨_, rfl⟩
          have SH := Lib.hid hsh
          have qsh : (sh.toList == sh.toList) = true := by simp
          clear hsh hnh ha1 hhd hst
          go_wp2
          obtain ⟨mcS, mch⟩ : ∃ S : World → Prop, ∀ w', S w' ↔ (w'.cell? ⟨kb, 3, none⟩ = some (.int .i64 a1) ∧ w'.cell? ⟨kb, 4, none⟩ = some (.slice Ax nh capx) ∧ w'.cell? ⟨qr, 2, none⟩ = some (.int .i64 st) ∧ ((convert 22 9 (.slice Ax nh capx)).run Try.prog w' = .ok (.string sh) w')) := ⟨_, fun _ => Iff.rfl⟩
          have mck0 : ∀ x : Memb mcS, x.at_.cell? ⟨kb, 3, none⟩ = some (.int .i64 a1) := fun x => ((mch _).1 x.is).1
          have mck1 : ∀ x : Memb mcS, x.at_.cell? ⟨kb, 4, none⟩ = some (.slice Ax nh capx) := fun x => ((mch _).1 x.is).2.1
          have mck2 : ∀ x : Memb mcS, x.at_.cell? ⟨qr, 2, none⟩ = some (.int .i64 st) := fun x => ((mch _).1 x.is).2.2.1
          have mck3 : ∀ x : Memb mcS, (convert 22 9 (.slice Ax nh capx)).run Try.prog x.at_ = .ok (.string sh) x.at_ := fun x => ((mch _).1 x.is).2.2.2
          have mcn : Nonempty (Memb mcS) := ⟨⟨(wv).drew, (mch _).2 ⟨(RC.out _ HX.out.drew).1, (RC.out _ HX.out.drew).2.1, (RC.out _ HX.out.drew).2.2.1, (SH.out ▸ run_str (RC.out _ HX.out.drew).2.2.2)⟩⟩⟩
          have mcH := Lib.hid mch
          clear mch
          refine wp_region_mix [4, 13, 14, 24] (InS mcS) (by kernel_rfl) (by kernel_rfl) (InS.mk ((mcH.out _).2 ⟨(RC.out _ HX.out.drew).1, (RC.out _ HX.out.drew).2.1, (RC.out _ HX.out.drew).2.2.1, (SH.out ▸ run_str (RC.out _ HX.out.drew).2.2.2)⟩)) ?_
          refine wpMix_seg 4 (by kernel_rfl) (by decide) ?_
          simp only [List.take_succ_cons, List.take_zero, List.drop_succ_cons, List.drop_zero]
          repeat (first | go_big_quiet_step (fail) | (go_big_quiet_want; first | refine quiet_conv mck3 rfl rfl rfl (by simp only [Act.put, List.setIfInBounds_toArray, List.set_cons_succ, List.set_cons_zero]; rfl) ?_; go_big_quiet_on))
          refine wpQuiet_nil ?_
          refine wpMix_eff (by kernel_rfl) ?_
          go_wp2_with fail
          refine (KAT.out _ HX.out.drew).mono ?_
          rintro e w' ⟨rfl, rfl⟩
          go_wp2
          refine MixK.on (InS.mk ((mcH.out _).2 ⟨(RC.out _ HX.out.drew).1, (RC.out _ HX.out.drew).2.1, (RC.out _ HX.out.drew).2.2.1, (SH.out ▸ run_str (RC.out _ HX.out.drew).2.2.2)⟩)) ?_
          refine wpMix_seg 8 (by kernel_rfl) (by decide) ?_
          simp only [List.take_succ_cons, List.take_zero, List.drop_succ_cons, List.drop_zero]
          repeat (first | go_big_quiet_step (fail) | (go_big_quiet_want; first | refine quiet_conv mck3 rfl rfl rfl (by simp only [Act.put, List.setIfInBounds_toArray, List.set_cons_succ, List.set_cons_zero]; rfl) ?_; go_big_quiet_on))
          refine wpQuiet_nil ?_
          refine wpMix_eff (by kernel_rfl) ?_
          go_wp2_with fail
          refine (KHD.out _ HX.out.drew).mono ?_
          rintro e w8 ⟨v8, rfl, o8, k8⟩
          obtain ⟨A8, c8, rfl, b8⟩ := slice_of_own o8
          rw [NH.out] at b8 ⊢
          have H8 := Lib.hid (HX.out.drew.later k8)
          have P8 := Lib.hid (PP.out.drew.later k8)
          have sd := run_str b8
          rw [SH.out] at sd
          clear o8 b8 k8
          go_wp2
          refine MixK.on (InS.mk ((mcH.out _).2 (⟨(RC.out _ H8.out).1, (RC.out _ H8.out).2.1, (RC.out _ H8.out).2.2.1, SH.out ▸ run_str (RC.out _ H8.out).2.2.2⟩))) ?_
          refine wpMix_eff (by kernel_rfl) ?_
          go_wp2
          refine MixK.on (InS.mk ((mcH.out _).2 (⟨(RC.out _ H8.out).1, (RC.out _ H8.out).2.1, (RC.out _ H8.out).2.2.1, SH.out ▸ run_str (RC.out _ H8.out).2.2.2⟩))) ?_
          refine wpMix_seg 9 (by kernel_rfl) (by decide) ?_
          simp only [List.take_succ_cons, List.take_zero, List.drop_succ_cons, List.drop_zero]
          repeat (first | go_big_quiet_step (fail) | (go_big_quiet_want; first | refine quiet_conv mck3 rfl rfl rfl (by simp only [Act.put, List.setIfInBounds_toArray, List.set_cons_succ, List.set_cons_zero]; rfl) ?_; go_big_quiet_on))
          refine wpQuiet_nil ?_
          refine wpMix_eff (by kernel_rfl) ?_
          go_wp2_with fail
          refine (STP.out _ H8.out).mono ?_
          rintro e w' ⟨rfl, rfl⟩
          go_wp2
          refine MixK.on (InS.mk ((mcH.out _).2 (⟨(RC.out _ H8.out).1, (RC.out _ H8.out).2.1, (RC.out _ H8.out).2.2.1, SH.out ▸ run_str (RC.out _ H8.out).2.2.2⟩))) ?_
          refine wpMix_seg 6 (by kernel_rfl) (by decide) ?_
          simp only [List.take_succ_cons, List.take_zero, List.drop_succ_cons, List.drop_zero]
          repeat (first | go_big_quiet_step (fail) | (go_big_quiet_want; first | refine quiet_conv mck3 rfl rfl rfl (by simp only [Act.put, List.setIfInBounds_toArray, List.set_cons_succ, List.set_cons_zero]; rfl) ?_; go_big_quiet_on))
          refine wpQuiet_nil ?_
          refine wpMix_nil ?_
          clear mck0 mck1 mck2 mck3 mcn mcH
          go_wp2
          go_roundw
          case rel => exact ⟨j + 1, sx, kx, Lx, rx, Lrx, krx, Ax, capx, hlt, by go_num, by rw [HMM.out]; exact P8.out⟩
          case measure => simp [intOf]; omega
        have e2 : decide (fk = 2) = false := decide_eq_false q2
        by_cases q3 : fk = 3
        · subst q3
          have PF := Lib.hid (fun w4 L3 Lr4 h4 => P.out.arm (w' := w4) (L' := L3) (Lr' := Lr4) (K' := ⟨kb, rb, eb, A1, cap1⟩) fn fz h4)
          have RW := Lib.hid (fun w3 L3 s3 k3 (h : FRC W w3 B0 q L3 s3 cb 1 3 k3 B1 qr Lr r ⟨kb, rb, eb, A1, cap1⟩ kr) => rfarm_any B1 Lr r qr fn fA fl fc fz w3 h.rf.fl h.rf.hq (RKB.arg FX.out h).rb (by omega))
          generalize hsx : s.armF fn fz = sx at PF
          generalize hrx : r.armR fn fz = rx at PF
          -- the copy of the call's bytes
          go_wp2_with (at_builtin; refine Hid.out ?_)
          refine Lib.hid ?_
          refine wpList_append_bs (Own.nil _ wv.heap.size) YB.out (by simp; omega) (Nat.le_refl _) rfl rfl rfl rfl rfl ?_
          intro v2 w2 ho2 hk2
          rw [List.nil_append] at ho2
          have K2 : Hid (Keeps None wv w2) := hk2.mono (fun i hi e => by simp [Value.ownBlock] at e)
          obtain ⟨A2, c2, rfl, bs2, -⟩ := ho2.shape
          rw [FL.out] at ho2 bs2 ⊢
          have H2 := Lib.hid (P.out.h.later K2.out)
          have O2 := Lib.hid ho2
          have BS2 := Lib.hid bs2
          have hle2 := bs2.le
          have hmx2 := bs2.max
          clear ho2 hk2 bs2
          have x0 := (YC.out _ H2.out.keeps).1
          have x1 := (YC.out _ H2.out.keeps).2.1
          have x2 := (YC.out _ H2.out.keeps).2.2
          clear y0 y1 y2
          go_wp2_with fail
          refine (larm H2.out.pf.lf BS2.out (by omega) fn FN.out).mono ?_
          rintro e w3 ⟨rfl, Lx, -, t3⟩
          have H3 := Lib.hid (H2.out.turnF t3)
          clear t3 x0 x1 x2
          go_wp2
          obtain ⟨m1S, m1h⟩ : ∃ S : World → Prop, ∀ w', S w' ↔ (w'.cell? ⟨bl, off + j * 3 + 1, none⟩ = some (.int .i64 fn) ∧ w'.cell? ⟨bl, off + j * 3 + 2, none⟩ = some (.slice fA fl fc)) := ⟨_, fun _ => Iff.rfl⟩
          have m1k0 : ∀ x : Memb m1S, x.at_.cell? ⟨bl, off + j * 3 + 1, none⟩ = some (.int .i64 fn) := fun x => ((m1h _).1 x.is).1
          have m1k1 : ∀ x : Memb m1S, x.at_.cell? ⟨bl, off + j * 3 + 2, none⟩ = some (.slice fA fl fc) := fun x => ((m1h _).1 x.is).2
          have m1n : Nonempty (Memb m1S) := ⟨⟨(w3).drew, (m1h _).2 ⟨(YC.out _ H3.out.drew.keeps).2.1, (YC.out _ H3.out.drew.keeps).2.2⟩⟩⟩
          have m1H := Lib.hid m1h
          clear m1h
          refine wp_region_mix [11] (InS m1S) (by kernel_rfl) (by kernel_rfl) (InS.mk ((m1H.out _).2 ⟨(YC.out _ H3.out.drew.keeps).2.1, (YC.out _ H3.out.drew.keeps).2.2⟩)) ?_
          refine wpMix_seg 11 (by kernel_rfl) (by decide) ?_
          simp only [List.take_succ_cons, List.take_zero, List.drop_succ_cons, List.drop_zero]
          repeat (go_big_quiet_step (fail))
          refine wpQuiet_nil ?_
          refine wpMix_eff (by kernel_rfl) ?_
          go_wp2_with fail
          refine (RW.out _ Lx _ _ H3.out.drew).mono ?_
          rintro e w4 ⟨rfl, Lrx, t4⟩
          have H4 := Lib.hid (H3.out.drew.turnR t4)
          rw [hsx, hrx] at H4
          have PP := Lib.hid (PF.out w4 Lx Lrx H4.out)
          clear t4
          go_wp2
          refine MixK.on (InS.mk ((m1H.out _).2 (⟨(YC.out _ PP.out.h.keeps).2.1, (YC.out _ PP.out.h.keeps).2.2⟩))) ?_
          refine wpMix_nil ?_
          clear m1k0 m1k1 m1n m1H
          clear H3 H2 H4 PF RW O2 BS2 hsx hrx
          obtain ⟨Ax, hAx⟩ : ∃ x, A1 = x := ⟨_, rfl⟩
          obtain ⟨capx, hcx⟩ : ∃ x, cap1 = x := ⟨_, rfl⟩
          obtain ⟨kx, hkx⟩ : ∃ x, k = x := ⟨_, rfl⟩
          obtain ⟨krx, hkrx⟩ : ∃ x, kr = x := ⟨_, rfl⟩
          rw [hAx, hcx, hkx, hkrx] at PP
          clear hAx hcx hkx hkrx
          -- the comparison behind a call, from PP : Hid (PX ..) at the world w4; the round's end
          obtain ⟨wv, hwv⟩ : ∃ x, w4 = x := ⟨_, rfl⟩
          rw [hwv] at PP
          rw [hwv]
          clear hwv
          have HX := Lib.hid PP.out.h
          have SX := Lib.hid PP.out.sm
          have CX := Lib.hid PP.out.cs
          obtain ⟨a1, ha1⟩ : ∃ x, KS.at_ kx = x := ⟨_, rfl⟩
          obtain ⟨hd, hhd⟩ : ∃ x, (KS.word kx).take (KS.n kx) = x := ⟨_, rfl⟩
          obtain ⟨nh, hnh⟩ : ∃ x, hd.length = x := ⟨_, rfl⟩
          obtain ⟨st, hst⟩ : ∃ x, FS.steps sx = x := ⟨_, rfl⟩
          have RC := Lib.hid (show ∀ w', FRC W w' B0 q Lx sx cb 1 3 kx B1 qr Lrx rx ⟨kb, rb, eb, Ax, capx⟩ krx → w'.cell? ⟨kb, 3, none⟩ = some (.int .i64 a1) ∧ w'.cell? ⟨kb, 4, none⟩ = some (.slice Ax nh capx) ∧ w'.cell? ⟨qr, 2, none⟩ = some (.int .i64 st) ∧ Bs w' Ax nh capx hd from fun w' h => by
            have e1 := h.rf.cell.cellD 3 _ rfl
            have e2 := h.rf.cell.cellD 4 _ rfl
            have e3 := h.rf.fl.f.cellD 2 _ rfl
            have e4 := h.rf.held
            rw [CX.out.at_, ha1] at e1
            rw [CX.out.held, hhd, hnh] at e2 e4
            rw [SX.out.steps, hst, h.rf.hq] at e3
            exact ⟨e1, e2, e3, e4⟩)
          have KAT := Lib.hid (fun w' (h : FRC W w' B0 q Lx sx cb 1 3 kx B1 qr Lrx rx ⟨kb, rb, eb, Ax, capx⟩ krx) => lkat h.pf)
          have KHD := Lib.hid (fun w' (h : FRC W w' B0 q Lx sx cb 1 3 kx B1 qr Lrx rx ⟨kb, rb, eb, Ax, capx⟩ krx) => lkheld h.pf)
          have STP := Lib.hid (fun w' (h : FRC W w' B0 q Lx sx cb 1 3 kx B1 qr Lrx rx ⟨kb, rb, eb, Ax, capx⟩ krx) => lsteps h.pf.lf)
          rw [ha1] at KAT
          rw [hhd] at KHD
          rw [hst] at STP
          have NH := Lib.hid hnh
          obtain ⟨sh, hsh⟩ : ∃ x, strOf hd = x := ⟨_, rfl⟩
          have SH := Lib.hid hsh
          have qsh : (sh.toList == sh.toList) = true := by simp
          clear hsh hnh ha1 hhd hst
          go_wp2
          obtain ⟨mcS, mch⟩ : ∃ S : World → Prop, ∀ w', S w' ↔ (w'.cell? ⟨kb, 3, none⟩ = some (.int .i64 a1) ∧ w'.cell? ⟨kb, 4, none⟩ = some (.slice Ax nh capx) ∧ w'.cell? ⟨qr, 2, none⟩ = some (.int .i64 st) ∧ ((convert 22 9 (.slice Ax nh capx)).run Try.prog w' = .ok (.string sh) w')) := ⟨_, fun _ => Iff.rfl⟩
          have mck0 : ∀ x : Memb mcS, x.at_.cell? ⟨kb, 3, none⟩ = some (.int .i64 a1) := fun x => ((mch _).1 x.is).1
          have mck1 : ∀ x : Memb mcS, x.at_.cell? ⟨kb, 4, none⟩ = some (.slice Ax nh capx) := fun x => ((mch _).1 x.is).2.1
          have mck2 : ∀ x : Memb mcS, x.at_.cell? ⟨qr, 2, none⟩ = some (.int .i64 st) := fun x => ((mch _).1 x.is).2.2.1
          have mck3 : ∀ x : Memb mcS, (convert 22 9 (.slice Ax nh capx)).run Try.prog x.at_ = .ok (.string sh) x.at_ := fun x => ((mch _).1 x.is).2.2.2
          have mcn : Nonempty (Memb mcS) := ⟨⟨(wv).drew, (mch _).2 ⟨(RC.out _ HX.out.drew).1, (RC.out _ HX.out.drew).2.1, (RC.out _ HX.out.drew).2.2.1, (SH.out ▸ run_str (RC.out _ HX.out.drew).2.2.2)⟩⟩⟩
          have mcH := Lib.hid mch
          clear mch
          refine wp_region_mix [4, 13, 14, 24] (InS mcS) (by kernel_rfl) (by kernel_rfl) (InS.mk ((mcH.out _).2 ⟨(RC.out _ HX.out.drew).1, (RC.out _ HX.out.drew).2.1, (RC.out _ HX.out.drew).2.2.1, (SH.out ▸ run_str (RC.out _ HX.out.drew).2.2.2)⟩)) ?_
          refine wpMix_seg 4 (by kernel_rfl) (by decide) ?_
          simp only [List.take_succ_cons, List.take_zero, List.drop_succ_cons, List.drop_zero]
          repeat (first | go_big_quiet_step (fail) | (go_big_quiet_want; first | refine quiet_conv mck3 rfl rfl rfl (by simp only [Act.put, List.setIfInBounds_toArray, List.set_cons_succ, List.set_cons_zero]; rfl) ?_; go_big_quiet_on))
          refine wpQuiet_nil ?_
          refine wpMix_eff (by kernel_rfl) ?_
          go_wp2_with fail
          refine (KAT.out _ HX.out.drew).mono ?_
          rintro e w' ⟨rfl, rfl⟩
          go_wp2
          refine MixK.on (InS.mk ((mcH.out _).2 ⟨(RC.out _ HX.out.drew).1, (RC.out _ HX.out.drew).2.1, (RC.out _ HX.out.drew).2.2.1, (SH.out ▸ run_str (RC.out _ HX.out.drew).2.2.2)⟩)) ?_
          refine wpMix_seg 8 (by kernel_rfl) (by decide) ?_
          simp only [List.take_succ_cons, List.take_zero, List.drop_succ_cons, List.drop_zero]
          repeat (first | go_big_quiet_step (fail) | (go_big_quiet_want; first | refine quiet_conv mck3 rfl rfl rfl (by simp only [Act.put, List.setIfInBounds_toArray, List.set_cons_succ, List.set_cons_zero]; rfl) ?_; go_big_quiet_on))
          refine wpQuiet_nil ?_
          refine wpMix_eff (by kernel_rfl) ?_
          go_wp2_with fail
          refine (KHD.out _ HX.out.drew).mono ?_
          rintro e w8 ⟨v8, rfl, o8, k8⟩
          obtain ⟨A8, c8, rfl, b8⟩ := slice_of_own o8
          rw [NH.out] at b8 ⊢
          have H8 := Lib.hid (HX.out.drew.later k8)
          have P8 := Lib.hid (PP.out.drew.later k8)
          have sd := run_str b8
          rw [SH.out] at sd
          clear o8 b8 k8
          go_wp2
          refine MixK.on (InS.mk ((mcH.out _).2 (⟨(RC.out _ H8.out).1, (RC.out _ H8.out).2.1, (RC.out _ H8.out).2.2.1, SH.out ▸ run_str (RC.out _ H8.out).2.2.2⟩))) ?_
          refine wpMix_eff (by kernel_rfl) ?_
          go_wp2
          refine MixK.on (InS.mk ((mcH.out _).2 (⟨(RC.out _ H8.out).1, (RC.out _ H8.out).2.1, (RC.out _ H8.out).2.2.1, SH.out ▸ run_str (RC.out _ H8.out).2.2.2⟩))) ?_
          refine wpMix_seg 9 (by kernel_rfl) (by decide) ?_
          simp only [List.take_succ_cons, List.take_zero, List.drop_succ_cons, List.drop_zero]
          repeat (first | go_big_quiet_step (fail) | (go_big_quiet_want; first | refine quiet_conv mck3 rfl rfl rfl (by simp only [Act.put, List.setIfInBounds_toArray, List.set_cons_succ, List.set_cons_zero]; rfl) ?_; go_big_quiet_on))
          refine wpQuiet_nil ?_
          refine wpMix_eff (by kernel_rfl) ?_
          go_wp2_with fail
          refine (STP.out _ H8.out).mono ?_
          rintro e w' ⟨rfl, rfl⟩
          go_wp2
          refine MixK.on (InS.mk ((mcH.out _).2 (⟨(RC.out _ H8.out).1, (RC.out _ H8.out).2.1, (RC.out _ H8.out).2.2.1, SH.out ▸ run_str (RC.out _ H8.out).2.2.2⟩))) ?_
          refine wpMix_seg 6 (by kernel_rfl) (by decide) ?_
          simp only [List.take_succ_cons, List.take_zero, List.drop_succ_cons, List.drop_zero]
          repeat (first | go_big_quiet_step (fail) | (go_big_quiet_want; first | refine quiet_conv mck3 rfl rfl rfl (by simp only [Act.put, List.setIfInBounds_toArray, List.set_cons_succ, List.set_cons_zero]; rfl) ?_; go_big_quiet_on))
          refine wpQuiet_nil ?_
          refine wpMix_nil ?_
          clear mck0 mck1 mck2 mck3 mcn mcH
          go_wp2
          go_roundw
          case rel => exact ⟨j + 1, sx, kx, Lx, rx, Lrx, krx, Ax, capx, hlt, by go_num, by rw [HMM.out]; exact P8.out⟩
          case measure => simp [intOf]; omega
        have e3 : decide (fk = 3) = false := decide_eq_false q3
        by_cases q4 : fk = 4
        · subst q4
          have PF := Lib.hid (fun w4 L3 Lr4 h4 => P.out.boot (w' := w4) (L' := L3) (Lr' := Lr4) (K' := ⟨kb, rb, eb, A1, cap1⟩) h4)
          have RW := Lib.hid (fun w3 L3 s3 k3 (h : FRC W w3 B0 q L3 s3 cb 1 3 k3 B1 qr Lr r ⟨kb, rb, eb, A1, cap1⟩ kr) => rfboot_any B1 Lr r qr w3 h.rf.fl h.rf.hq)
          generalize hsx : s.bootF = sx at PF
          generalize hrx : r.bootF = rx at PF
          -- the copy of the call's bytes
          go_wp2_with (at_builtin; refine Hid.out ?_)
          refine Lib.hid ?_
          refine wpList_append_bs (Own.nil _ wv.heap.size) YB.out (by simp; omega) (Nat.le_refl _) rfl rfl rfl rfl rfl ?_
          intro v2 w2 ho2 hk2
          rw [List.nil_append] at ho2
          have K2 : Hid (Keeps None wv w2) := hk2.mono (fun i hi e => by simp [Value.ownBlock] at e)
          obtain ⟨A2, c2, rfl, bs2, -⟩ := ho2.shape
          rw [FL.out] at ho2 bs2 ⊢
          have H2 := Lib.hid (P.out.h.later K2.out)
          have O2 := Lib.hid ho2
          have BS2 := Lib.hid bs2
          have hle2 := bs2.le
          have hmx2 := bs2.max
          clear ho2 hk2 bs2
          have x0 := (YC.out _ H2.out.keeps).1
          have x1 := (YC.out _ H2.out.keeps).2.1
          have x2 := (YC.out _ H2.out.keeps).2.2
          clear y0 y1 y2
          go_wp2_with fail
          refine (lboot H2.out.pf.lf).mono ?_
          rintro e w3 ⟨rfl, Lx, -, t3⟩
          have H3 := Lib.hid (H2.out.turnF t3)
          clear t3 x0 x1 x2
          go_wp2_with fail
          refine (RW.out _ Lx _ _ H3.out).mono ?_
          rintro e w4 ⟨rfl, Lrx, t4⟩
          have H4 := Lib.hid (H3.out.turnR t4)
          rw [hsx, hrx] at H4
          have PP := Lib.hid (PF.out w4 Lx Lrx H4.out)
          clear t4 H3 H2 H4 PF RW O2 BS2 hsx hrx
          obtain ⟨Ax, hAx⟩ : ∃ x, A1 = x := ⟨_, rfl⟩
          obtain ⟨capx, hcx⟩ : ∃ x, cap1 = x := ⟨_, rfl⟩
          obtain ⟨kx, hkx⟩ : ∃ x, k = x := ⟨_, rfl⟩
          obtain ⟨krx, hkrx⟩ : ∃ x, kr = x := ⟨_, rfl⟩
          rw [hAx, hcx, hkx, hkrx] at PP
          clear hAx hcx hkx hkrx
          -- the comparison behind a call, from PP : Hid (PX ..) at the world w4; the round's end
          obtain ⟨wv, hwv⟩ : ∃ x, w4 = x := ⟨_, rfl⟩
          rw [hwv] at PP
          rw [hwv]
          clear hwv
          have HX := Lib.hid PP.out.h
          have SX := Lib.hid PP.out.sm
          have CX := Lib.hid PP.out.cs
          obtain ⟨a1, ha1⟩ : ∃ x, KS.at_ kx = x := ⟨_, rfl⟩
          obtain ⟨hd, hhd⟩ : ∃ x, (KS.word kx).take (KS.n kx) = x := ⟨_, rfl⟩
          obtain ⟨nh, hnh⟩ : ∃ x, hd.length = x := ⟨_, rfl⟩
          obtain ⟨st, hst⟩ : ∃ x, FS.steps sx = x := ⟨_, rfl⟩
          have RC := Lib.hid (show ∀ w', FRC W w' B0 q Lx sx cb 1 3 kx B1 qr Lrx rx ⟨kb, rb, eb, Ax, capx⟩ krx → w'.cell? ⟨kb, 3, none⟩ = some (.int .i64 a1) ∧ w'.cell? ⟨kb, 4, none⟩ = some (.slice Ax nh capx) ∧ w'.cell? ⟨qr, 2, none⟩ = some (.int .i64 st) ∧ Bs w' Ax nh capx hd from fun w' h => by
            have e1 := h.rf.cell.cellD 3 _ rfl
            have e2 := h.rf.cell.cellD 4 _ rfl
            have e3 := h.rf.fl.f.cellD 2 _ rfl
            have e4 := h.rf.held
            rw [CX.out.at_, ha1] at e1
            rw [CX.out.held, hhd, hnh] at e2 e4
            rw [SX.out.steps, hst, h.rf.hq] at e3
            exact ⟨e1, e2, e3, e4⟩)
          have KAT := Lib.hid (fun w' (h : FRC W w' B0 q Lx sx cb 1 3 kx B1 qr Lrx rx ⟨kb, rb, eb, Ax, capx⟩ krx) => lkat h.pf)
          have KHD := Lib.hid (fun w' (h : FRC W w' B0 q Lx sx cb 1 3 kx B1 qr Lrx rx ⟨kb, rb, eb, Ax, capx⟩ krx) => lkheld h.pf)
          have STP := Lib.hid (fun w' (h : FRC W w' B0 q Lx sx cb 1 3 kx B1 qr Lrx rx ⟨kb, rb, eb, Ax, capx⟩ krx) => lsteps h.pf.lf)
          rw [ha1] at KAT
          rw [hhd] at KHD
          rw [hst] at STP
          have NH := Lib.hid hnh
          obtain ⟨sh, hsh⟩ : ∃ x, strOf hd = x := ⟨_, rfl⟩
          have SH := Lib.hid hsh
          have qsh : (sh.toList == sh.toList) = true := by simp
          clear hsh hnh ha1 hhd hst
          go_wp2
          obtain ⟨mcS, mch⟩ : ∃ S : World → Prop, ∀ w', S w' ↔ (w'.cell? ⟨kb, 3, none⟩ = some (.int .i64 a1) ∧ w'.cell? ⟨kb, 4, none⟩ = some (.slice Ax nh capx) ∧ w'.cell? ⟨qr, 2, none⟩ = some (.int .i64 st) ∧ ((convert 22 9 (.slice Ax nh capx)).run Try.prog w' = .ok (.string sh) w')) := ⟨_, fun _ => Iff.rfl⟩
          have mck0 : ∀ x : Memb mcS, x.at_.cell? ⟨kb, 3, none⟩ = some (.int .i64 a1) := fun x => ((mch _).1 x.is).1
          have mck1 : ∀ x : Memb mcS, x.at_.cell? ⟨kb, 4, none⟩ = some (.slice Ax nh capx) := fun x => ((mch _).1 x.is).2.1
          have mck2 : ∀ x : Memb mcS, x.at_.cell? ⟨qr, 2, none⟩ = some (.int .i64 st) := fun x => ((mch _).1 x.is).2.2.1
          have mck3 : ∀ x : Memb mcS, (convert 22 9 (.slice Ax nh capx)).run Try.prog x.at_ = .ok (.string sh) x.at_ := fun x => ((mch _).1 x.is).2.2.2
          have mcn : Nonempty (Memb mcS) := ⟨⟨(wv).drew, (mch _).2 ⟨(RC.out _ HX.out.drew).1, (RC.out _ HX.out.drew).2.1, (RC.out _ HX.out.drew).2.2.1, (SH.out ▸ run_str (RC.out _ HX.out.drew).2.2.2)⟩⟩⟩
          have mcH := Lib.hid mch
          clear mch
          refine wp_region_mix [4, 13, 14, 24] (InS mcS) (by kernel_rfl) (by kernel_rfl) (InS.mk ((mcH.out _).2 ⟨(RC.out _ HX.out.drew).1, (RC.out _ HX.out.drew).2.1, (RC.out _ HX.out.drew).2.2.1, (SH.out ▸ run_str (RC.out _ HX.out.drew).2.2.2)⟩)) ?_
          refine wpMix_seg 4 (by kernel_rfl) (by decide) ?_
          simp only [List.take_succ_cons, List.take_zero, List.drop_succ_cons, List.drop_zero]
          repeat (first | go_big_quiet_step (fail) | (go_big_quiet_want; first | refine quiet_conv mck3 rfl rfl rfl (by simp only [Act.put, List.setIfInBounds_toArray, List.set_cons_succ, List.set_cons_zero]; rfl) ?_; go_big_quiet_on))
          refine wpQuiet_nil ?_
          refine wpMix_eff (by kernel_rfl) ?_
          go_wp2_with fail
          refine (KAT.out _ HX.out.drew).mono ?_
          rintro e w' ⟨rfl, rfl⟩
          go_wp2
          refine MixK.on (InS.mk ((mcH.out _).2 ⟨(RC.out _ HX.out.drew).1, (RC.out _ HX.out.drew).2.1, (RC.out _ HX.out.drew).2.2.1, (SH.out ▸ run_str (RC.out _ HX.out.drew).2.2.2)⟩)) ?_
          refine wpMix_seg 8 (by kernel_rfl) (by decide) ?_
          simp only [List.take_succ_cons, List.take_zero, List.drop_succ_cons, List.drop_zero]
          repeat (first | go_big_quiet_step (fail) | (go_big_quiet_want; first | refine quiet_conv mck3 rfl rfl rfl (by simp only [Act.put, List.setIfInBounds_toArray, List.set_cons_succ, List.set_cons_zero]; rfl) ?_; go_big_quiet_on))
          refine wpQuiet_nil ?_
          refine wpMix_eff (by kernel_rfl) ?_
          go_wp2_with fail
          refine (KHD.out _ HX.out.drew).mono ?_
          rintro e w8 ⟨v8, rfl, o8, k8⟩
          obtain ⟨A8, c8, rfl, b8⟩ := slice_of_own o8
          rw [NH.out] at b8 ⊢
          have H8 := Lib.hid (HX.out.drew.later k8)
          have P8 := Lib.hid (PP.out.drew.later k8)
          have sd := run_str b8
          rw [SH.out] at sd
          clear o8 b8 k8
          go_wp2
          refine MixK.on (InS.mk ((mcH.out _).2 (⟨(RC.out _ H8.out).1, (RC.out _ H8.out).2.1, (RC.out _ H8.out).2.2.1, SH.out ▸ run_str (RC.out _ H8.out).2.2.2⟩))) ?_
          refine wpMix_eff (by kernel_rfl) ?_
          go_wp2
          refine MixK.on (InS.mk ((mcH.out _).2 (⟨(RC.out _ H8.out).1, (RC.out _ H8.out).2.1, (RC.out _ H8.out).2.2.1, SH.out ▸ run_str (RC.out _ H8.out).2.2.2⟩))) ?_
          refine wpMix_seg 9 (by kernel_rfl) (by decide) ?_
          simp only [List.take_succ_cons, List.take_zero, List.drop_succ_cons, List.drop_zero]
          repeat (first | go_big_quiet_step (fail) | (go_big_quiet_want; first | refine quiet_conv mck3 rfl rfl rfl (by simp only [Act.put, List.setIfInBounds_toArray, List.set_cons_succ, List.set_cons_zero]; rfl) ?_; go_big_quiet_on))
          refine wpQuiet_nil ?_
          refine wpMix_eff (by kernel_rfl) ?_
          go_wp2_with fail
          refine (STP.out _ H8.out).mono ?_
          rintro e w' ⟨rfl, rfl⟩
          go_wp2
          refine MixK.on (InS.mk ((mcH.out _).2 (⟨(RC.out _ H8.out).1, (RC.out _ H8.out).2.1, (RC.out _ H8.out).2.2.1, SH.out ▸ run_str (RC.out _ H8.out).2.2.2⟩))) ?_
          refine wpMix_seg 6 (by kernel_rfl) (by decide) ?_
          simp only [List.take_succ_cons, List.take_zero, List.drop_succ_cons, List.drop_zero]
          repeat (first | go_big_quiet_step (fail) | (go_big_quiet_want; first | refine quiet_conv mck3 rfl rfl rfl (by simp only [Act.put, List.setIfInBounds_toArray, List.set_cons_succ, List.set_cons_zero]; rfl) ?_; go_big_quiet_on))
          refine wpQuiet_nil ?_
          refine wpMix_nil ?_
          clear mck0 mck1 mck2 mck3 mcn mcH
          go_wp2
          go_roundw
          case rel => exact ⟨j + 1, sx, kx, Lx, rx, Lrx, krx, Ax, capx, hlt, by go_num, by rw [HMM.out]; exact P8.out⟩
          case measure => simp [intOf]; omega
        have e4 : decide (fk = 4) = false := decide_eq_false q4
        -- the copy of the call's bytes
        go_wp2_with (at_builtin; refine Hid.out ?_)
        refine Lib.hid ?_
        refine wpList_append_bs (Own.nil _ wv.heap.size) YB.out (by simp; omega) (Nat.le_refl _) rfl rfl rfl rfl rfl ?_
        intro v2 w2 ho2 hk2
        rw [List.nil_append] at ho2
        have K2 : Hid (Keeps None wv w2) := hk2.mono (fun i hi e => by simp [Value.ownBlock] at e)
        obtain ⟨A2, c2, rfl, bs2, -⟩ := ho2.shape
        rw [FL.out] at ho2 bs2 ⊢
        have H2 := Lib.hid (P.out.h.later K2.out)
        have O2 := Lib.hid ho2
        have BS2 := Lib.hid bs2
        have hle2 := bs2.le
        have hmx2 := bs2.max
        clear ho2 hk2 bs2
        have x0 := (YC.out _ H2.out.keeps).1
        have x1 := (YC.out _ H2.out.keeps).2.1
        have x2 := (YC.out _ H2.out.keeps).2.2
        clear y0 y1 y2
        have PP := Lib.hid ((P.out.later K2.out).less (show mm ≤ mm + 300000 by omega))
        obtain ⟨Ax, hAx⟩ : ∃ x, A1 = x := ⟨_, rfl⟩
        obtain ⟨capx, hcx⟩ : ∃ x, cap1 = x := ⟨_, rfl⟩
        obtain ⟨kx, hkx⟩ : ∃ x, k = x := ⟨_, rfl⟩
        obtain ⟨krx, hkrx⟩ : ∃ x, kr = x := ⟨_, rfl⟩
        obtain ⟨sx, hsx⟩ : ∃ x, s = x := ⟨_, rfl⟩
        obtain ⟨rx, hrx⟩ : ∃ x, r = x := ⟨_, rfl⟩
        obtain ⟨Lx, hLx⟩ : ∃ x, L = x := ⟨_, rfl⟩
        obtain ⟨Lrx, hLrx⟩ : ∃ x, Lr = x := ⟨_, rfl⟩
        rw [hAx, hcx, hkx, hkrx, hsx, hrx, hLx, hLrx] at PP
        clear hAx hcx hkx hkrx hsx hrx hLx hLrx H2 O2 BS2
        go_wp2
        have y := (0 : Nat)
        clear x0 x1 x2
        -- the comparison behind a call, from PP : Hid (PX ..) at the world w2; the round's end
        obtain ⟨wv, hwv⟩ : ∃ x, w2 = x := ⟨_, rfl⟩
        rw [hwv] at PP
        rw [hwv]
        clear hwv
        have HX := Lib.hid PP.out.h
        have SX := Lib.hid PP.out.sm
        have CX := Lib.hid PP.out.cs
        obtain ⟨a1, ha1⟩ : ∃ x, KS.at_ kx = x := ⟨_, rfl⟩
        obtain ⟨hd, hhd⟩ : ∃ x, (KS.word kx).take (KS.n kx) = x := ⟨_, rfl⟩
        obtain ⟨nh, hnh⟩ : ∃ x, hd.length = x := ⟨_, rfl⟩
        obtain ⟨st, hst⟩ : ∃ x, FS.steps sx = x := ⟨_, rfl⟩
        have RC := Lib.hid (show ∀ w', FRC W w' B0 q Lx sx cb 1 3 kx B1 qr Lrx rx ⟨kb, rb, eb, Ax, capx⟩ krx → w'.cell? ⟨kb, 3, none⟩ = some (.int .i64 a1) ∧ w'.cell? ⟨kb, 4, none⟩ = some (.slice Ax nh capx) ∧ w'.cell? ⟨qr, 2, none⟩ = some (.int .i64 st) ∧ Bs w' Ax nh capx hd from fun w' h => by
          have e1 := h.rf.cell.cellD 3 _ rfl
          have e2 := h.rf.cell.cellD 4 _ rfl
          have e3 := h.rf.fl.f.cellD 2 _ rfl
          have e4 := h.rf.held
          rw [CX.out.at_, ha1] at e1
          rw [CX.out.held, hhd, hnh] at e2 e4
          rw [SX.out.steps, hst, h.rf.hq] at e3
          exact ⟨e1, e2, e3, e4⟩)
        have KAT := Lib.hid (fun w' (h : FRC W w' B0 q Lx sx cb 1 3 kx B1 qr Lrx rx ⟨kb, rb, eb, Ax, capx⟩ krx) => lkat h.pf)
        have KHD := Lib.hid (fun w' (h : FRC W w' B0 q Lx sx cb 1 3 kx B1 qr Lrx rx ⟨kb, rb, eb, Ax, capx⟩ krx) => lkheld h.pf)
        have STP := Lib.hid (fun w' (h : FRC W w' B0 q Lx sx cb 1 3 kx B1 qr Lrx rx ⟨kb, rb, eb, Ax, capx⟩ krx) => lsteps h.pf.lf)
        rw [ha1] at KAT
        rw [hhd] at KHD
        rw [hst] at STP
        have NH := Lib.hid hnh
        obtain ⟨sh, hsh⟩ : ∃ x, strOf hd = x := ⟨_, rfl⟩
        have SH := Lib.hid hsh
        have qsh : (sh.toList == sh.toList) = true := by simp
        clear hsh hnh ha1 hhd hst
        go_wp2
        obtain ⟨mcS, mch⟩ : ∃ S : World → Prop, ∀ w', S w' ↔ (w'.cell? ⟨kb, 3, none⟩ = some (.int .i64 a1) ∧ w'.cell? ⟨kb, 4, none⟩ = some (.slice Ax nh capx) ∧ w'.cell? ⟨qr, 2, none⟩ = some (.int .i64 st) ∧ ((convert 22 9 (.slice Ax nh capx)).run Try.prog w' = .ok (.string sh) w')) := ⟨_, fun _ => Iff.rfl⟩
        have mck0 : ∀ x : Memb mcS, x.at_.cell? ⟨kb, 3, none⟩ = some (.int .i64 a1) := fun x => ((mch _).1 x.is).1
        have mck1 : ∀ x : Memb mcS, x.at_.cell? ⟨kb, 4, none⟩ = some (.slice Ax nh capx) := fun x => ((mch _).1 x.is).2.1
        have mck2 : ∀ x : Memb mcS, x.at_.cell? ⟨qr, 2, none⟩ = some (.int .i64 st) := fun x => ((mch _).1 x.is).2.2.1
        have mck3 : ∀ x : Memb mcS, (convert 22 9 (.slice Ax nh capx)).run Try.prog x.at_ = .ok (.string sh) x.at_ := fun x => ((mch _).1 x.is).2.2.2
        have mcn : Nonempty (Memb mcS) := ⟨⟨(wv).drew, (mch _).2 ⟨(RC.out _ HX.out.drew).1, (RC.out _ HX.out.drew).2.1, (RC.out _ HX.out.drew).2.2.1, (SH.out ▸ run_str (RC.out _ HX.out.drew).2.2.2)⟩⟩⟩
        have mcH := Lib.hid mch
        clear mch
        refine wp_region_mix [4, 13, 14, 24] (InS mcS) (by kernel_rfl) (by kernel_rfl) (InS.mk ((mcH.out _).2 ⟨(RC.out _ HX.out.drew).1, (RC.out _ HX.out.drew).2.1, (RC.out _ HX.out.drew).2.2.1, (SH.out ▸ run_str (RC.out _ HX.out.drew).2.2.2)⟩)) ?_
        refine wpMix_seg 4 (by kernel_rfl) (by decide) ?_
        simp only [List.take_succ_cons, List.take_zero, List.drop_succ_cons, List.drop_zero]
        repeat (first | go_big_quiet_step (fail) | (go_big_quiet_want; first | refine quiet_conv mck3 rfl rfl rfl (by simp only [Act.put, List.setIfInBounds_toArray, List.set_cons_succ, List.set_cons_zero]; rfl) ?_; go_big_quiet_on))
        refine wpQuiet_nil ?_
        refine wpMix_eff (by kernel_rfl) ?_
        go_wp2_with fail
        refine (KAT.out _ HX.out.drew).mono ?_
        rintro e w' ⟨rfl, rfl⟩
        go_wp2
        refine MixK.on (InS.mk ((mcH.out _).2 ⟨(RC.out _ HX.out.drew).1, (RC.out _ HX.out.drew).2.1, (RC.out _ HX.out.drew).2.2.1, (SH.out ▸ run_str (RC.out _ HX.out.drew).2.2.2)⟩)) ?_
        refine wpMix_seg 8 (by kernel_rfl) (by decide) ?_
        simp only [List.take_succ_cons, List.take_zero, List.drop_succ_cons, List.drop_zero]
        repeat (first | go_big_quiet_step (fail) | (go_big_quiet_want; first | refine quiet_conv mck3 rfl rfl rfl (by simp only [Act.put, List.setIfInBounds_toArray, List.set_cons_succ, List.set_cons_zero]; rfl) ?_; go_big_quiet_on))
        refine wpQuiet_nil ?_
        refine wpMix_eff (by kernel_rfl) ?_
        go_wp2_with fail
        refine (KHD.out _ HX.out.drew).mono ?_
        rintro e w8 ⟨v8, rfl, o8, k8⟩
        obtain ⟨A8, c8, rfl, b8⟩ := slice_of_own o8
        rw [NH.out] at b8 ⊢
        have H8 := Lib.hid (HX.out.drew.later k8)
        have P8 := Lib.hid (PP.out.drew.later k8)
        have sd := run_str b8
        rw [SH.out] at sd
        clear o8 b8 k8
        go_wp2
        refine MixK.on (InS.mk ((mcH.out _).2 (⟨(RC.out _ H8.out).1, (RC.out _ H8.out).2.1, (RC.out _ H8.out).2.2.1, SH.out ▸ run_str (RC.out _ H8.out).2.2.2⟩))) ?_
        refine wpMix_eff (by kernel_rfl) ?_
        go_wp2
        refine MixK.on (InS.mk ((mcH.out _).2 (⟨(RC.out _ H8.out).1, (RC.out _ H8.out).2.1, (RC.out _ H8.out).2.2.1, SH.out ▸ run_str (RC.out _ H8.out).2.2.2⟩))) ?_
        refine wpMix_seg 9 (by kernel_rfl) (by decide) ?_
        simp only [List.take_succ_cons, List.take_zero, List.drop_succ_cons, List.drop_zero]
        repeat (first | go_big_quiet_step (fail) | (go_big_quiet_want; first | refine quiet_conv mck3 rfl rfl rfl (by simp only [Act.put, List.setIfInBounds_toArray, List.set_cons_succ, List.set_cons_zero]; rfl) ?_; go_big_quiet_on))
        refine wpQuiet_nil ?_
        refine wpMix_eff (by kernel_rfl) ?_
        go_wp2_with fail
        refine (STP.out _ H8.out).mono ?_
        rintro e w' ⟨rfl, rfl⟩
        go_wp2
        refine MixK.on (InS.mk ((mcH.out _).2 (⟨(RC.out _ H8.out).1, (RC.out _ H8.out).2.1, (RC.out _ H8.out).2.2.1, SH.out ▸ run_str (RC.out _ H8.out).2.2.2⟩))) ?_
        refine wpMix_seg 6 (by kernel_rfl) (by decide) ?_
        simp only [List.take_succ_cons, List.take_zero, List.drop_succ_cons, List.drop_zero]
        repeat (first | go_big_quiet_step (fail) | (go_big_quiet_want; first | refine quiet_conv mck3 rfl rfl rfl (by simp only [Act.put, List.setIfInBounds_toArray, List.set_cons_succ, List.set_cons_zero]; rfl) ?_; go_big_quiet_on))
        refine wpQuiet_nil ?_
        refine wpMix_nil ?_
        clear mck0 mck1 mck2 mck3 mcn mcH
        go_wp2
        go_roundw
        case rel => exact ⟨j + 1, sx, kx, Lx, rx, Lrx, krx, Ax, capx, hlt, by go_num, by rw [HMM.out]; exact P8.out⟩
        case measure => simp [intOf]; omega
      · obtain rfl : j = m := by omega
        have SX := Lib.hid PR.out.sm
        have GQ := Lib.hid PR.out.h.rf.hq
        have BL := Lib.hid (PR.out.h.pf.kat.fl.four PR.out.el)
        -- PR.out.h.pf.lf LF at wv, PR.out.h.rf.fl RAt at wv (as a term of w')
        obtain ⟨gb, capb, hTB⟩ := RAt.told B1 Lr r (q := qr) (N := 4096) (zs := s.b) GQ.out SX.out.b BL.out
        have TB := Lib.hid hTB
        have hpk : s.peekF 0 4096 = s.b := by
          have := peek_eq (s := s) (a := 0) (n := 4096) (X := s.b) (by rw [BL.out]; decide) BL.out (fun i _ => by rw [Nat.zero_add])
          exact this
        have PK := Lib.hid (fun w' (h' : LF W w' B0 q L s) => lpeek h' 0 4096)
        rw [hpk] at PK
        obtain ⟨sz, hsz⟩ : ∃ sz, strOf s.b = sz := ⟨_, rfl⟩
        have HSZ := Lib.hid hsz
        have qz : (sz.toList == sz.toList) = true := by simp
        have LFX := Lib.hid (PR.out.h.pf.lf)
        have RAX := Lib.hid (PR.out.h.rf.fl)
        clear hTB hpk hsz
        go_wp2
        obtain ⟨mtS, mth⟩ : ∃ S : World → Prop, ∀ w', S w' ↔ (w'.cell? ⟨qr, 0, none⟩ = some (.slice (some ⟨gb, 0, none⟩) 4096 capb) ∧ ((convert 22 9 (.slice (some ⟨gb, 0, none⟩) 4096 capb)).run Try.prog w' = .ok (.string sz) w')) := ⟨_, fun _ => Iff.rfl⟩
        have mtk0 : ∀ x : Memb mtS, x.at_.cell? ⟨qr, 0, none⟩ = some (.slice (some ⟨gb, 0, none⟩) 4096 capb) := fun x => ((mth _).1 x.is).1
        have mtk1 : ∀ x : Memb mtS, (convert 22 9 (.slice (some ⟨gb, 0, none⟩) 4096 capb)).run Try.prog x.at_ = .ok (.string sz) x.at_ := fun x => ((mth _).1 x.is).2
        have mtn : Nonempty (Memb mtS) := ⟨⟨(wv).drew, (mth _).2 ⟨(TB.out _ RAX.out.drew).1, (HSZ.out ▸ run_str (TB.out _ RAX.out.drew).2)⟩⟩⟩
        have mtH := Lib.hid mth
        clear mth
        refine wp_region_mix [1, 2] (InS mtS) (by kernel_rfl) (by kernel_rfl) (InS.mk ((mtH.out _).2 ⟨(TB.out _ RAX.out.drew).1, (HSZ.out ▸ run_str (TB.out _ RAX.out.drew).2)⟩)) ?_
        refine wpMix_seg 1 (by kernel_rfl) (by decide) ?_
        simp only [List.take_succ_cons, List.take_zero, List.drop_succ_cons, List.drop_zero]
        repeat (first | go_big_quiet_step (fail) | (go_big_quiet_want; first | refine quiet_conv mtk1 rfl rfl rfl (by simp only [Act.put, List.setIfInBounds_toArray, List.set_cons_succ, List.set_cons_zero]; rfl) ?_; go_big_quiet_on))
        refine wpQuiet_nil ?_
        refine wpMix_eff (by kernel_rfl) ?_
        go_wp2_with fail
        refine (PK.out _ (LFX.out.later (Keeps.refl None wv).drew)).mono ?_
        rintro e w8 ⟨v8, rfl, o8, k8⟩
        obtain ⟨A8, c8, rfl, b8⟩ := slice_of_own o8
        rw [BL.out] at b8 ⊢
        have LF8 := Lib.hid ((LFX.out.later (Keeps.refl None wv).drew).later k8)
        have RA8 := Lib.hid (RAX.out.drew.later k8)
        have sd := run_str b8
        rw [HSZ.out] at sd
        clear o8 b8 k8
        go_wp2
        refine MixK.on (InS.mk ((mtH.out _).2 (⟨(TB.out _ RA8.out).1, HSZ.out ▸ run_str (TB.out _ RA8.out).2⟩))) ?_
        refine wpMix_eff (by kernel_rfl) ?_
        go_wp2
        refine MixK.on (InS.mk ((mtH.out _).2 (⟨(TB.out _ RA8.out).1, HSZ.out ▸ run_str (TB.out _ RA8.out).2⟩))) ?_
        refine wpMix_seg 7 (by kernel_rfl) (by decide) ?_
        simp only [List.take_succ_cons, List.take_zero, List.drop_succ_cons, List.drop_zero]
        repeat (first | go_big_quiet_step (fail) | (go_big_quiet_want; first | refine quiet_conv mtk1 rfl rfl rfl (by simp only [Act.put, List.setIfInBounds_toArray, List.set_cons_succ, List.set_cons_zero]; rfl) ?_; go_big_quiet_on))
        refine wpQuiet_nil ?_
        refine wpMix_nil ?_
        clear mtk0 mtk1 mtn mtH
        go_wp2
        go_ret
        exact ⟨by first | rfl | simp, LF8.out.keeps.below (fun _ _ h => h)⟩
theorem plays4_all (from_ : Int) (A0 : Option Addr) (m0 c0 : Nat) (zs0 : List Int) (A : Option Addr) (m cap : Nat) (xs : List Value) (W : World) (h0 : Bs W A0 m0 c0 zs0) (hs : IsSl W A m cap 3 xs) (h : ∀ i, i < m → ∃ c, Act4At W xs i c) :
    Calls Try.prog 16 #[.int .i64 from_, .slice A0 m0 c0, .slice A m cap] W fun e w' => e = .returned (.bool true) ∧ Below W.heap.size W w' := by
  obtain ⟨F, hF⟩ := acts4_of hs h
  exact plays4_any from_ A0 m0 c0 zs0 A m cap xs F W h0 hF
set_option maxRecDepth 100000 in
theorem CursorPlays_lifted (os : Os) (started : os.Started) (H : Type) (enc : TypeId × Value → H) :
    ReturnsInHanded {} Try.checked os 16 .any (Rows.cursorPlaysSpec.pre6 enc Try.prog Try.f16 Rows.cursorPlaysRow.domain false) (Rows.cursorPlaysSpec.post enc Try.prog Try.f16 false true false false) := by
  refine returnsInHanded_of_change (C := Try.checked) Try.own started (by kernel_rfl) Try.func16
    (ChangeSpec.witness6 (enc := enc) (C := Try.checked) false ⟨#[], #[.int .i64 0, .slice none 0 0, .slice none 0 0], []⟩ 8 (by kernel_rfl) (by kernel_rfl) (by kernel_rfl) (by kernel_rfl)) ?_
  intro W base args ds gs before hval0 hW hcnd _
  have hval : ∀ (j : Nat) t v, Try.f16.params[j]? = some t → args[j]? = some v → Value.okWide Try.prog W .any base t v := hval0
  have hW' := hW
  obtain ⟨p, q, hA0, hV, rfl, hfz, hnd⟩ := hW
  have hA : DataW.TrodAll enc Try.prog W 0 (fun _ => true) true Try.f16.params.toList args.toList ds p := hA0
  rw [Try.params16] at hA hval
  obtain ⟨v0, vs0, d0, ds0, p0, q0, hargs, rfl, rfl, h0, r0⟩ := trodAll_cons hA
  obtain ⟨v1, vs1, d1, ds1, p1, q1, rfl, rfl, rfl, h1, r1⟩ := trodAll_cons r0
  obtain ⟨v2, vs2, d2, ds2, p2, q2, rfl, rfl, rfl, h2, r2⟩ := trodAll_cons r1
  obtain ⟨rfl, rfl, rfl⟩ := trodAll_nil r2
  obtain rfl : args = #[v0, v1, v2] := by cases args; simp_all
  obtain ⟨rfl, rfl⟩ := trodVars_none hV
  have k0 := h0
  have lt0 : ∀ x ∈ p0, x.block < W.heap.size := by obtain ⟨m, hm⟩ := k0; exact DataW.trod_lt m _ _ _ hm
  obtain ⟨a0, rfl, rfl, rfl, w0⟩ := open_int Try.underlying3 (hval 0 3 v0 rfl rfl) h0
  have k1 := h1
  have lt1 : ∀ x ∈ p1, x.block < W.heap.size := by obtain ⟨m, hm⟩ := k1; exact DataW.trod_lt m _ _ _ hm
  obtain ⟨a1, len1, cap1, rfl⟩ := okWide_slice Try.underlying22 (hval 1 22 v1 rfl rfl)
  obtain ⟨z1, s1⟩ := open_bs h1
  have k2 := h2
  have lt2 : ∀ x ∈ p2, x.block < W.heap.size := by obtain ⟨m, hm⟩ := k2; exact DataW.trod_lt m _ _ _ hm
  obtain ⟨a2, len2, cap2, rfl⟩ := okWide_slice Try.underlying83 (hval 2 83 v2 rfl rfl)
  obtain ⟨z2, s2, f2⟩ := open_structs' Try.underlying83 Try.underlying89 (by kernel_rfl) (by kernel_rfl) (by decide) h2
  clear hA0 hval0
  refine (plays4_all a0 a1 len1 cap1 z1 a2 len2 cap2 z2 W s1 s2 (fun i hi => by obtain ⟨y0, e0, _⟩ := fld_int f2 (j := 0) rfl Try.underlying3 hi; obtain ⟨y1, e1, w1⟩ := fld_int f2 (j := 1) rfl Try.underlying3 hi; obtain ⟨A, l, c, zs, e2, hb⟩ := fld_bytes f2 (j := 2) rfl rfl hi; exact ⟨⟨y0, 0, y1, A, l, c, zs⟩, e0, e1, e2, hb, (wf_i64_bd w1).2⟩)).mono fun e W' ⟨he, bel⟩ => ?_
  subst he
  exact ⟨_, rfl, _, _, _, [], _, [], hW', trodAll_mk1 (shut_bool Try.underlying4 _), (trodAll_cons_mk (Below.trod Try.laidOut (by kernel_rfl) (of_decide_eq_true (by kernel_rfl)) k0 bel lt0) (trodAll_cons_mk (Below.trod Try.laidOut (by kernel_rfl) (of_decide_eq_true (by kernel_rfl)) k1 bel lt1) (trodAll_cons_mk (Below.trod Try.laidOut (by kernel_rfl) (of_decide_eq_true (by kernel_rfl)) k2 bel lt2) trodAll_mk0))), rfl, bel.frame _, fun h => by cases h⟩

set_option maxRecDepth 100000 in
theorem CursorPlays_closed : joinedFacts Try.checked.prog 16 Try.f16 Rows.cursorPlaysSpec Rows.cursorPlaysRow = true := by
  unfold joinedFacts
  rw [closed_laid, closed_maps, closed_heard, closed_plain, closed_mayEnter, closed_lifts, closed_make]
  kernel_rfl

theorem CursorPlays_holds : Rows.CursorPlaysSaid :=
  OpenClaim.holds_of_wide 16 Try.f16 rfl rfl rfl rfl rfl rfl rfl ⟨rfl, rfl, rfl, rfl, rfl⟩ rfl rfl rfl rfl rfl (by kernel_rfl) Try.func16 CursorPlays_closed
    (of_decide_eq_true (by kernel_rfl)) (by unfold Func.isWrapper; first | (rw [if_pos (by decide +kernel)]; kernel_rfl) | (rw [if_neg (by decide +kernel)]; exact ⟨rfl, rfl⟩))
    (fun os started H enc _ => CursorPlays_lifted os started H enc)
#print axioms CursorPlays_holds
end Go.Proofs.Ytngofnlhbhfigaa
