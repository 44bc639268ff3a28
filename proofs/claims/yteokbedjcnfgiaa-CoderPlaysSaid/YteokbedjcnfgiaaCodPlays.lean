/-
  For every number of bits and every row of calls, the law CoderPlays returns true: what the calls tell, and the output at each moment, agree with the definition. No condition.
-/
import Derived.Test.YteokbedjcnfgiaaCodTree2
import Derived.Test.YteokbedjcnfgiaaCodLength
import Derived.Test.YteokbedjcnfgiaaMix2
namespace Go.Proofs.Yteokbedjcnfgiaa
open Go.RowKit Go.ChangeShapes Go.WideShapes Go.ChangeAt

/-- Two coders, two trees: the program's and the reference's. -/
structure PC (W w : World) (B gc gd bc bd bt bp bu bq n : Nat) (s s' : CSt) (ps qs : List Int) : Prop where
  c : CAt w bc gc 93 s.l s.w
  d : CAt w bd gd 76 s'.l s'.w
  t : MTree w bt bp ps
  u : RTree w bu bq n qs
  keeps : Keeps (fun k => W.heap.size ≤ k) W w
  room : B ≤ w.heap.size
  chain : W.heap.size ≤ bc ∧ bc < bd ∧ bd < bp ∧ bp < bt ∧ bt < bu ∧ bu < bq ∧ bq < B
  gcw : W.heap.size ≤ gc ∧ (gc < bc ∨ B ≤ gc)
  gdw : (bc < gd ∧ gd < bd) ∨ B ≤ gd
  gne : gc ≠ gd
section PC
variable {W w w' : World} {B gc gd bc bd bt bp bu bq n g' : Nat} {s s' s2 : CSt} {ps qs ps2 : List Int}
theorem PC.stepCT (h : PC W w B gc gd bc bd bt bp bu bq n s s' ps qs) (hg : g' = gc ∨ w.heap.size ≤ g') (h1 : CAt w' bc g' 93 s2.l s2.w) (h2 : MTree w' bt bp ps2) (hk : Keeps (fun k => k = bc ∨ k = gc ∨ k = bp) w w') : PC W w' B g' gd bc bd bt bp bu bq n s2 s' ps2 qs := by
  obtain ⟨hc, hd, ht, hu, hkk, hr, hch, hgc, hgd, hne⟩ := h
  have hs := hk.size
  have l1 := hd.ltg
  exact ⟨h1, hd.keeps hk (by omega) (by omega), h2, hu.keeps hk (by omega) (by omega), hkk.trans hk (fun _ h => h) (fun x hx h => by omega), by omega, hch, by omega, hgd, by omega⟩
theorem PC.stepC (h : PC W w B gc gd bc bd bt bp bu bq n s s' ps qs) (hg : g' = gc ∨ w.heap.size ≤ g') (h1 : CAt w' bc g' 93 s2.l s2.w) (hk : Keeps (fun k => k = bc ∨ k = gc) w w') : PC W w' B g' gd bc bd bt bp bu bq n s2 s' ps qs :=
  h.stepCT hg h1 (h.t.keeps hk (by have := h.chain; have := h.gcw; omega) (by have := h.chain; have := h.gcw; omega)) (hk.mono (fun _ _ h => by omega))
theorem PC.stepDT (h : PC W w B gc gd bc bd bt bp bu bq n s s' ps qs) (hg : g' = gd ∨ w.heap.size ≤ g') (h1 : CAt w' bd g' 76 s2.l s2.w) (h2 : RTree w' bu bq n ps2) (hk : Keeps (fun k => k = bd ∨ k = gd ∨ k = bq) w w') : PC W w' B gc g' bc bd bt bp bu bq n s s2 ps ps2 := by
  obtain ⟨hc, hd, ht, hu, hkk, hr, hch, hgc, hgd, hne⟩ := h
  have hs := hk.size
  have l1 := hc.ltg
  exact ⟨hc.keeps hk (by omega) (by omega), h1, ht.keeps hk (by omega) (by omega), h2, hkk.trans hk (fun _ h => h) (fun x hx h => by omega), by omega, hch, hgc, by omega, by omega⟩
theorem PC.stepD (h : PC W w B gc gd bc bd bt bp bu bq n s s' ps qs) (hg : g' = gd ∨ w.heap.size ≤ g') (h1 : CAt w' bd g' 76 s2.l s2.w) (hk : Keeps (fun k => k = bd ∨ k = gd) w w') : PC W w' B gc g' bc bd bt bp bu bq n s s2 ps qs :=
  h.stepDT hg h1 (h.u.keeps hk (by have := h.chain; have := h.gdw; omega) (by have := h.chain; have := h.gdw; omega)) (hk.mono (fun _ _ h => by omega))
theorem PC.drew (h : PC W w B gc gd bc bd bt bp bu bq n s s' ps qs) : PC W w.drew B gc gd bc bd bt bp bu bq n s s' ps qs :=
  ⟨h.c, h.d, h.t, h.u, h.keeps.drew, h.room, h.chain, h.gcw, h.gdw, h.gne⟩
theorem PC.later (h : PC W w B gc gd bc bd bt bp bu bq n s s' ps qs) (hk : Keeps None w w') : PC W w' B gc gd bc bd bt bp bu bq n s s' ps qs :=
  ⟨h.c.keeps hk (fun h => h) (fun h => h), h.d.keeps hk (fun h => h) (fun h => h), h.t.keeps hk (fun h => h) (fun h => h), h.u.keeps hk (fun h => h) (fun h => h), h.keeps.trans hk (fun _ h => h) (fun _ _ h => h.elim), Nat.le_trans h.room hk.size, h.chain, h.gcw, h.gdw, h.gne⟩
end PC

theorem own_bs {w : World} {X : Nat} {A : Option Addr} {n cap : Nat} {l : List Int} (h : Own w X (.slice A n cap) l) : Bs w A n cap l := by
  obtain ⟨A', cap', e, hb, -⟩ := h.shape
  cases e
  exact hb

/-- What the loop keeps besides: both trees, the coder's bounds. -/
structure PI (n k : Nat) (s : CSt) (ps qs : List Int) : Prop where
  okp : TOk ps n
  okq : TOk qs n
  agree : Agree ps qs
  w0 : 16777216 ≤ s.w
  w1 : s.w < 4294967296
  len : s.l.length ≤ 4 + 8 * k


set_option maxRecDepth 100000 in
set_option maxHeartbeats 3200000 in
theorem plays16_any (bits : Int) (A : Option Addr) (m cap : Nat) (xs : List Value) (W : World) (hs : IsSl W A m cap 3 xs)
    (hf : ∀ i, i < m → ∃ z0 z1 z2, xs[i * 3]? = some (.int .i64 z0) ∧ xs[i * 3 + 1]? = some (.int .i64 z1) ∧ xs[i * 3 + 2]? = some (.int .i64 z2)) :
    Calls Try.prog 8 #[.int .i64 bits, .slice A m cap] W fun e w' => e = .returned (.bool true) ∧ Below W.heap.size W w' := by
  obtain ⟨_, hcap, hmax, hcell⟩ := hs
  have ALV : Hid (∀ w, Calls Try.prog 37 #[] w fun e w' => e = .returned (.bool true) ∧ Below w.heap.size w w') := alive16_any
  have HF := Lib.hid hf
  have HC := Lib.hid hcell
  clear hf hcell
  by_cases hbig : 200 < m
  · have d1 : decide (200 < (m : Int)) = true := decide_eq_true (by omega)
    go_enter Try.func8, Try.ntmps8
    go_wp2_with fail
    refine (ALV.out _).mono ?_
    rintro e w1 ⟨rfl, hk⟩
    go_wp2
    go_ret
    exact ⟨rfl, hk⟩
  have d1 : decide (200 < (m : Int)) = false := decide_eq_false (by omega)
  have OKP := Lib.hid (TOk.new bits)
  have OKQ := Lib.hid (TOk.rnew bits)
  have AGR := Lib.hid (Agree.new (2 ^ szN bits) Nat.one_le_two_pow)
  have NEW := Lib.hid (fun w => new_any bits w)
  have RNEW := Lib.hid (fun w => rnew_any bits w)
  have hn8 := szN_hi bits
  generalize szN bits = n at *
  go_enter Try.func8, Try.ntmps8
  go_wp2_with fail
  refine (ALV.out _).mono ?_
  rintro e w1 ⟨rfl, hk⟩
  have K1 : Hid (Keeps (fun k => W.heap.size ≤ k) W w1) := ⟨hk.os, hk.tape, hk.output, hk.size, fun i hi _ => hk.block i hi⟩
  clear hk ALV
  go_wp2_with fail
  refine (cnew_any _).mono ?_
  rintro e w2 ⟨rfl, c2, k2⟩
  have C2 := Lib.hid c2
  have KK2 := Lib.hid k2
  clear c2 k2
  go_wp2_with fail
  refine (rcnew_any _).mono ?_
  rintro e w3 ⟨rfl, c3, k3⟩
  have C3 := Lib.hid c3
  have KK3 := Lib.hid k3
  clear c3 k3
  go_wp2_with fail
  refine (NEW.out _).mono ?_
  rintro e w4 ⟨rfl, t4, k4⟩
  have T4 := Lib.hid t4
  have KK4 := Lib.hid k4
  clear t4 k4
  go_wp2_with fail
  refine (RNEW.out _).mono ?_
  rintro e w5 ⟨rfl, t5, k5⟩
  have key : ∃ gc gd bc bd bp bt bq bu B, bc = w1.heap.size + 1 ∧ bd = w2.heap.size + 1 ∧ bt = w3.heap.size + 1 ∧ bu = w4.heap.size ∧ PC W w5 B gc gd bc bd bt bp bu bq n ⟨[0, 0, 0, 0], 4294967295⟩ ⟨[0, 0, 0, 0], 4294967295⟩ (List.replicate (2 ^ n) 1024) (rnewN (2 ^ n)) := by
    have l2 := C2.out.ltb
    have l3 := C3.out.ltb
    have l4 := T4.out.1.lt
    have l5 := t5.2.1.lt
    have s1 := K1.out.size
    refine ⟨w1.heap.size, w2.heap.size, _, _, w3.heap.size, _, w4.heap.size + 1, _, w4.heap.size + 2, rfl, rfl, rfl, rfl, ?_⟩
    refine ⟨((C2.out.keeps KK3.out (fun h => h) (fun h => h)).keeps KK4.out (fun h => h) (fun h => h)).keeps k5 (fun h => h) (fun h => h), (C3.out.keeps KK4.out (fun h => h) (fun h => h)).keeps k5 (fun h => h) (fun h => h), T4.out.keeps k5 (fun h => h) (fun h => h), t5,
      (((K1.out.trans KK2.out (fun _ h => h) (fun _ _ h => h.elim)).trans KK3.out (fun _ h => h) (fun _ _ h => h.elim)).trans KK4.out (fun _ h => h) (fun _ _ h => h.elim)).trans k5 (fun _ h => h) (fun _ _ h => h.elim), by omega, by omega, by omega, by omega, by omega⟩
  obtain ⟨gc0, gd0, bc, bd, bp, bt, bq, bu, B, e1, e2, e3, e4, hkey⟩ := key
  rw [← e1, ← e2, ← e3, ← e4]
  have KEY := Lib.hid hkey
  clear hkey K1 C2 KK2 C3 KK3 T4 KK4 t5 k5 e1 e2 e3 e4 NEW RNEW
  go_wp2
  go_loopw [10] (fun i wr => ∃ (k gc gd : Nat) (s : CSt) (ps qs : List Int), k ≤ m ∧ i = .int .i64 k ∧ PC W wr B gc gd bc bd bt bp bu bq n s s ps qs ∧ PI n k s ps qs) (fun i _ => m - (intOf i).toNat)
  case atStart => exact ⟨0, gc0, gd0, _, _, _, Nat.zero_le _, rfl, KEY.out, ⟨OKP.out, OKQ.out, AGR.out, by decide, by decide, by decide⟩⟩
  case round =>
    obtain ⟨k, gc, gd, s, ps, qs, hkm, rfl, hP, hI⟩ := hrel
    clear KEY OKP OKQ AGR
    by_cases hlt : k < m
    · obtain ⟨wv, rfl⟩ : ∃ x, x = wr := ⟨_, rfl⟩
      obtain ⟨bl, off, rfl, hb, hc⟩ := HC.out (by omega)
      obtain ⟨z0, z1, z2, x0, x1, x2⟩ := HF.out k hlt
      have hcw : ∀ w', Keeps (fun k => W.heap.size ≤ k) W w' → w'.cell? ⟨bl, off + k * 3, none⟩ = some (.int .i64 z0) ∧ w'.cell? ⟨bl, off + k * 3 + 1, none⟩ = some (.int .i64 z1) ∧ w'.cell? ⟨bl, off + k * 3 + 2, none⟩ = some (.int .i64 z2) := fun w' hk => by
        have hcc : ∀ i, i < m * 3 → w'.cell? ⟨bl, off + i, none⟩ = xs[i]? := fun i hi => (hk.cell (p := ⟨bl, off + i, none⟩) hb (by simp; exact hb)).trans (hc i hi)
        exact ⟨(hcc (k * 3) (by omega)).trans x0, (hcc (k * 3 + 1) (by omega)).trans x1, (hcc (k * 3 + 2) (by omega)).trans x2⟩
      have HCW := Lib.hid hcw
      clear x0 x1 x2 hc hcw
      obtain ⟨c0, c1, c2⟩ := HCW.out wv hP.keeps
      have HP := Lib.hid hP
      have HI := Lib.hid hI
      have w0 := hI.w0
      have w1' := hI.w1
      have ln := hI.len
      clear hP hI
      by_cases t1 : z0 = 1
      · subst t1
        have Y := Lib.hid (fun w h => cbit_any bc gc s.l s.w z1 z2 w h (by omega) w1' (by omega))
        have RY := Lib.hid (fun w h => rcbit_any bd gd s.l s.w z1 z2 w h (by omega) w1' (by omega))
        generalize adapt z1 z2 = av at *
        go_wp2
        obtain ⟨mS, mh⟩ : ∃ S : World → Prop, ∀ w', S w' ↔ (w'.cell? ⟨bl, off + k * 3 + 1, none⟩ = some (.int .i64 z1) ∧ w'.cell? ⟨bl, off + k * 3 + 2, none⟩ = some (.int .i64 z2)) := ⟨_, fun _ => Iff.rfl⟩
        have mk0 : ∀ x : Memb mS, x.at_.cell? ⟨bl, off + k * 3 + 1, none⟩ = some (.int .i64 z1) := fun x => ((mh _).1 x.is).1
        have mk1 : ∀ x : Memb mS, x.at_.cell? ⟨bl, off + k * 3 + 2, none⟩ = some (.int .i64 z2) := fun x => ((mh _).1 x.is).2
        have mn : Nonempty (Memb mS) := ⟨⟨(wv).drew, (mh _).2 ⟨c1, c2⟩⟩⟩
        have mH := Lib.hid mh
        clear mh
        refine wp_region_mix [11, 23] (InS mS) (by kernel_rfl) (by kernel_rfl) (InS.mk ((mH.out _).2 ⟨c1, c2⟩)) ?_
        refine wpMix_seg 11 (by kernel_rfl) (by decide) ?_
        simp only [List.take_succ_cons, List.take_zero, List.drop_succ_cons, List.drop_zero]
        repeat (go_big_quiet_step (fail))
        refine wpQuiet_nil ?_
        refine wpMix_eff (by kernel_rfl) ?_
        go_wp2_with fail
        refine (Y.out _ HP.out.drew.c).mono ?_
        rintro e w4 ⟨rfl, g4, hg4, h4, k4⟩
        have HP4 := Lib.hid (HP.out.drew.stepC (s2 := cBitS s z1 z2) hg4 h4 k4)
        clear hg4 h4 k4
        go_wp2
        refine MixK.on (InS.mk ((mH.out _).2 (⟨(HCW.out w4 HP4.out.keeps).2.1, (HCW.out w4 HP4.out.keeps).2.2⟩))) ?_
        refine wpMix_seg 11 (by kernel_rfl) (by decide) ?_
        simp only [List.take_succ_cons, List.take_zero, List.drop_succ_cons, List.drop_zero]
        repeat (go_big_quiet_step (fail))
        refine wpQuiet_nil ?_
        refine wpMix_eff (by kernel_rfl) ?_
        go_wp2_with fail
        refine (RY.out _ HP4.out.d).mono ?_
        rintro e w5 ⟨rfl, g5, hg5, h5, k5⟩
        have HP5 := Lib.hid (HP4.out.stepD (s2 := cBitS s z1 z2) hg5 h5 k5)
        clear hg5 h5 k5
        go_wp2
        refine MixK.on (InS.mk ((mH.out _).2 (⟨(HCW.out w5 HP5.out.keeps).2.1, (HCW.out w5 HP5.out.keeps).2.2⟩))) ?_
        refine wpMix_seg 1 (by kernel_rfl) (by decide) ?_
        simp only [List.take_succ_cons, List.take_zero, List.drop_succ_cons, List.drop_zero]
        repeat (go_big_quiet_step (fail))
        refine wpQuiet_nil ?_
        refine wpMix_nil ?_
        clear mk0 mk1 mn mH
        have HI5 := Lib.hid (show PI n (k + 1) (cBitS s z1 z2) ps qs from ⟨HI.out.okp, HI.out.okq, HI.out.agree, (cBitS_w s z1 z2 w0 w1').1, (cBitS_w s z1 z2 w0 w1').2, by have := cBitS_len s z1 z2; omega⟩)
        clear c0 c1 c2 Y RY HP HP4 HI
        go_wp2
        obtain ⟨gc, gd, s, ps, qs, HP, HI⟩ : ∃ gc gd s ps qs, Hid (PC W w5 B gc gd bc bd bt bp bu bq n s s ps qs) ∧ Hid (PI n (k + 1) s ps qs) := ⟨_, _, _, _, _, HP5, HI5⟩
        have DN := Lib.hid (fun w h => cdone_any bc gc s.l s.w w h (by have := HI.out.len; omega))
        have AT := Lib.hid (fun w h => at_any bt bp ps z1 w h HI.out.okp.le HI.out.okp.2.2.2.2)
        have RAT := Lib.hid (fun w h => rat_any bu bq n qs z1 w h HI.out.okq.le)
        rw [HI.out.agree.at_ z1] at RAT
        generalize atN ps z1 = av at *
        obtain ⟨sm, HSM⟩ : ∃ sm, Hid (strOf s.l = sm) := ⟨_, rfl⟩
        obtain ⟨capd, hbd0, hod0, -⟩ := HP.out.d
        have HBD := Lib.hid hbd0
        have g1 := hbd0.cellD 0 _ rfl
        have HBS : Hid (Bs w5 (some ⟨gd, 0, none⟩) s.l.length capd s.l) := own_bs hod0
        clear hbd0 hod0
        obtain ⟨-, e1, -⟩ := HCW.out w5 HP.out.keeps
        obtain ⟨mS, mh⟩ : ∃ S : World → Prop, ∀ w', S w' ↔ (w'.cell? ⟨bd, 0, none⟩ = some (.slice (some ⟨gd, 0, none⟩) s.l.length capd) ∧ w'.cell? ⟨bl, off + k * 3 + 1, none⟩ = some (.int .i64 z1) ∧ ((convert 27 9 (.slice (some ⟨gd, 0, none⟩) s.l.length capd)).run Try.prog w' = .ok (.string sm) w')) := ⟨_, fun _ => Iff.rfl⟩
        have mk0 : ∀ x : Memb mS, x.at_.cell? ⟨bd, 0, none⟩ = some (.slice (some ⟨gd, 0, none⟩) s.l.length capd) := fun x => ((mh _).1 x.is).1
        have mk1 : ∀ x : Memb mS, x.at_.cell? ⟨bl, off + k * 3 + 1, none⟩ = some (.int .i64 z1) := fun x => ((mh _).1 x.is).2.1
        have mk2 : ∀ x : Memb mS, (convert 27 9 (.slice (some ⟨gd, 0, none⟩) s.l.length capd)).run Try.prog x.at_ = .ok (.string sm) x.at_ := fun x => ((mh _).1 x.is).2.2
        have mn : Nonempty (Memb mS) := ⟨⟨(w5).drew, (mh _).2 ⟨g1, e1, HSM.out ▸ run_str HBS.out.drew⟩⟩⟩
        have mH := Lib.hid mh
        clear mh
        refine wp_region_mix2 [1, 16, 23] (InS mS) (by kernel_rfl) (by kernel_rfl) (InS.mk ((mH.out _).2 ⟨g1, e1, HSM.out ▸ run_str HBS.out.drew⟩)) ?_
        refine wpMix2_seg 1 (InS mS) (by kernel_rfl) (by decide) (cl_base [] rfl (by kernel_rfl)) ?_
        simp only [List.take_succ_cons, List.take_zero, List.drop_succ_cons, List.drop_zero]
        repeat (first | go_big_quiet_step (fail) | (go_big_quiet_want; first | refine quiet_conv mk2 rfl rfl rfl (by simp only [Act.put, List.setIfInBounds_toArray, List.set_cons_succ, List.set_cons_zero]; rfl) ?_; go_big_quiet_on))
        refine wpQuiet_nil ?_
        refine wpMix2_eff (by kernel_rfl) ?_
        go_wp2_with fail
        refine (DN.out _ HP.out.drew.c).mono ?_
        rintro e w7 ⟨v7, rfl, o7, k7⟩
        obtain ⟨A7, cap7, rfl, bs7, -⟩ := o7.shape
        have BS7 := Lib.hid bs7
        have P7 := Lib.hid (HP.out.drew.later k7)
        have G7 := Lib.hid ((k7.blk HBD.out.drew (fun h => h)).cellD 0 _ rfl)
        have S7 := Lib.hid (HBS.out.drew.keeps k7 (fun _ _ _ _ _ h => h))
        clear o7 bs7 k7
        go_wp2
        obtain ⟨mL2S, mL2h⟩ : ∃ S : World → Prop, ∀ w', S w' ↔ (((convert 27 9 (.slice A7 s.l.length cap7)).run Try.prog w' = .ok (.string sm) w')) := ⟨_, fun _ => Iff.rfl⟩
        have mL2k0 : ∀ x : Memb mL2S, (convert 27 9 (.slice A7 s.l.length cap7)).run Try.prog x.at_ = .ok (.string sm) x.at_ := fun x => ((mL2h _).1 x.is)
        have mL2n : Nonempty (Memb mL2S) := ⟨⟨_, (mL2h _).2 (HSM.out ▸ run_str BS7.out)⟩⟩
        have mL2H := Lib.hid mL2h
        clear mL2h
        refine MixK2.late (D := InS mL2S) (x := 2) (by kernel_rfl) (cls_cons (InS.mk ((mL2H.out _).2 (HSM.out ▸ run_str BS7.out))) (cls_base (InS.mk ((mH.out _).2 (⟨G7.out, (HCW.out _ P7.out.keeps).2.1, HSM.out ▸ run_str S7.out⟩))))) ?_
        refine wpMix2_seg 1 (InS mL2S) (by kernel_rfl) (by decide) (cl_one rfl) ?_
        simp only [List.take_succ_cons, List.take_zero, List.drop_succ_cons, List.drop_zero]
        repeat (first | go_big_quiet_step (fail) | (go_big_quiet_want; first | refine quiet_conv mk2 rfl rfl rfl (by simp only [Act.put, List.setIfInBounds_toArray, List.set_cons_succ, List.set_cons_zero]; rfl) ?_; go_big_quiet_on | refine quiet_conv mL2k0 rfl rfl rfl (by simp only [Act.put, List.setIfInBounds_toArray, List.set_cons_succ, List.set_cons_zero]; rfl) ?_; go_big_quiet_on))
        refine wpQuiet_nil ?_
        refine wpMix2_seg 13 (InS mS) (by kernel_rfl) (by decide) (cl_base [2] rfl (by kernel_rfl)) ?_
        simp only [List.take_succ_cons, List.take_zero, List.drop_succ_cons, List.drop_zero]
        repeat (first | go_big_quiet_step (fail) | (go_big_quiet_want; first | refine quiet_conv mk2 rfl rfl rfl (by simp only [Act.put, List.setIfInBounds_toArray, List.set_cons_succ, List.set_cons_zero]; rfl) ?_; go_big_quiet_on | refine quiet_conv mL2k0 rfl rfl rfl (by simp only [Act.put, List.setIfInBounds_toArray, List.set_cons_succ, List.set_cons_zero]; rfl) ?_; go_big_quiet_on))
        refine wpQuiet_nil ?_
        refine wpMix2_eff (by kernel_rfl) ?_
        go_wp2_with fail
        refine (AT.out _ P7.out.t).mono ?_
        rintro e w' ⟨rfl, rfl⟩
        go_wp2
        refine MixK2.on (cls_cons (InS.mk ((mL2H.out _).2 (HSM.out ▸ run_str BS7.out))) (cls_base (InS.mk ((mH.out _).2 (⟨G7.out, (HCW.out _ P7.out.keeps).2.1, HSM.out ▸ run_str S7.out⟩))))) ?_
        refine wpMix2_seg 6 (InS mS) (by kernel_rfl) (by decide) (cl_base [2] rfl (by kernel_rfl)) ?_
        simp only [List.take_succ_cons, List.take_zero, List.drop_succ_cons, List.drop_zero]
        repeat (first | go_big_quiet_step (fail) | (go_big_quiet_want; first | refine quiet_conv mk2 rfl rfl rfl (by simp only [Act.put, List.setIfInBounds_toArray, List.set_cons_succ, List.set_cons_zero]; rfl) ?_; go_big_quiet_on | refine quiet_conv mL2k0 rfl rfl rfl (by simp only [Act.put, List.setIfInBounds_toArray, List.set_cons_succ, List.set_cons_zero]; rfl) ?_; go_big_quiet_on))
        refine wpQuiet_nil ?_
        refine wpMix2_eff (by kernel_rfl) ?_
        go_wp2_with fail
        refine (RAT.out _ P7.out.u).mono ?_
        rintro e w' ⟨rfl, rfl⟩
        go_wp2
        refine MixK2.on (cls_cons (InS.mk ((mL2H.out _).2 (HSM.out ▸ run_str BS7.out))) (cls_base (InS.mk ((mH.out _).2 (⟨G7.out, (HCW.out _ P7.out.keeps).2.1, HSM.out ▸ run_str S7.out⟩))))) ?_
        refine wpMix2_seg 2 (InS mS) (by kernel_rfl) (by decide) (cl_base [2] rfl (by kernel_rfl)) ?_
        simp only [List.take_succ_cons, List.take_zero, List.drop_succ_cons, List.drop_zero]
        repeat (first | go_big_quiet_step (fail) | (go_big_quiet_want; first | refine quiet_conv mk2 rfl rfl rfl (by simp only [Act.put, List.setIfInBounds_toArray, List.set_cons_succ, List.set_cons_zero]; rfl) ?_; go_big_quiet_on | refine quiet_conv mL2k0 rfl rfl rfl (by simp only [Act.put, List.setIfInBounds_toArray, List.set_cons_succ, List.set_cons_zero]; rfl) ?_; go_big_quiet_on))
        refine wpQuiet_nil ?_
        refine wpMix2_nil ?_
        clear mk0 mk1 mk2 mn mH mL2k0 mL2n mL2H
        clear DN AT RAT BS7 S7 G7 g1 e1 HBS HBD
        go_wp2
        go_roundw
        case rel => exact ⟨k + 1, gc, gd, s, ps, qs, by omega, by go_num, P7.out, HI.out⟩
        case measure => simp [intOf]; omega
      · have q1 : (z0 == 1) = false := by simpa using t1
        by_cases t2 : z0 = 2
        · subst t2
          have Y := Lib.hid (chalf_any bc gc s.l s.w z2 wv HP.out.c (by omega) w1' (by omega))
          have RY := Lib.hid (fun w h => rchalf_any bd gd s.l s.w z2 w h (by omega) w1' (by omega))
          have hcw := cStep_w s 0 z2 w0 w1'
          have hcl := cStep_len s 0 z2
          have ec : cStep s 0 z2 = ⟨cHalfL s.l s.w z2, cHalfW s.w⟩ := if_pos rfl
          rw [ec] at hcw hcl
          have HI5 := Lib.hid (show PI n (k + 1) ⟨cHalfL s.l s.w z2, cHalfW s.w⟩ ps qs from ⟨HI.out.okp, HI.out.okq, HI.out.agree, hcw.1, hcw.2, by have := hcl.2; omega⟩)
          clear hcw hcl ec HI
          go_wp2_with fail
          refine Y.out.mono ?_
          rintro e w4 ⟨rfl, g4, hg4, h4, k4⟩
          have HP4 := Lib.hid (HP.out.stepC (s2 := ⟨cHalfL s.l s.w z2, cHalfW s.w⟩) hg4 h4 k4)
          obtain ⟨-, -, d2⟩ := HCW.out w4 HP4.out.keeps
          clear hg4 h4 k4
          go_wp2_with fail
          refine (RY.out _ HP4.out.d).mono ?_
          rintro e w5 ⟨rfl, g5, hg5, h5, k5⟩
          have HP5 := Lib.hid (HP4.out.stepD (s2 := ⟨cHalfL s.l s.w z2, cHalfW s.w⟩) hg5 h5 k5)
          clear hg5 h5 k5 c0 c1 c2 Y RY HP HP4 d2
          go_wp2
          obtain ⟨gc, gd, s, ps, qs, HP, HI⟩ : ∃ gc gd s ps qs, Hid (PC W w5 B gc gd bc bd bt bp bu bq n s s ps qs) ∧ Hid (PI n (k + 1) s ps qs) := ⟨_, _, _, _, _, HP5, HI5⟩
          have DN := Lib.hid (fun w h => cdone_any bc gc s.l s.w w h (by have := HI.out.len; omega))
          have AT := Lib.hid (fun w h => at_any bt bp ps z1 w h HI.out.okp.le HI.out.okp.2.2.2.2)
          have RAT := Lib.hid (fun w h => rat_any bu bq n qs z1 w h HI.out.okq.le)
          rw [HI.out.agree.at_ z1] at RAT
          generalize atN ps z1 = av at *
          obtain ⟨sm, HSM⟩ : ∃ sm, Hid (strOf s.l = sm) := ⟨_, rfl⟩
          obtain ⟨capd, hbd0, hod0, -⟩ := HP.out.d
          have HBD := Lib.hid hbd0
          have g1 := hbd0.cellD 0 _ rfl
          have HBS : Hid (Bs w5 (some ⟨gd, 0, none⟩) s.l.length capd s.l) := own_bs hod0
          clear hbd0 hod0
          obtain ⟨-, e1, -⟩ := HCW.out w5 HP.out.keeps
          obtain ⟨mS, mh⟩ : ∃ S : World → Prop, ∀ w', S w' ↔ (w'.cell? ⟨bd, 0, none⟩ = some (.slice (some ⟨gd, 0, none⟩) s.l.length capd) ∧ w'.cell? ⟨bl, off + k * 3 + 1, none⟩ = some (.int .i64 z1) ∧ ((convert 27 9 (.slice (some ⟨gd, 0, none⟩) s.l.length capd)).run Try.prog w' = .ok (.string sm) w')) := ⟨_, fun _ => Iff.rfl⟩
          have mk0 : ∀ x : Memb mS, x.at_.cell? ⟨bd, 0, none⟩ = some (.slice (some ⟨gd, 0, none⟩) s.l.length capd) := fun x => ((mh _).1 x.is).1
          have mk1 : ∀ x : Memb mS, x.at_.cell? ⟨bl, off + k * 3 + 1, none⟩ = some (.int .i64 z1) := fun x => ((mh _).1 x.is).2.1
          have mk2 : ∀ x : Memb mS, (convert 27 9 (.slice (some ⟨gd, 0, none⟩) s.l.length capd)).run Try.prog x.at_ = .ok (.string sm) x.at_ := fun x => ((mh _).1 x.is).2.2
          have mn : Nonempty (Memb mS) := ⟨⟨(w5).drew, (mh _).2 ⟨g1, e1, HSM.out ▸ run_str HBS.out.drew⟩⟩⟩
          have mH := Lib.hid mh
          clear mh
          refine wp_region_mix2 [1, 16, 23] (InS mS) (by kernel_rfl) (by kernel_rfl) (InS.mk ((mH.out _).2 ⟨g1, e1, HSM.out ▸ run_str HBS.out.drew⟩)) ?_
          refine wpMix2_seg 1 (InS mS) (by kernel_rfl) (by decide) (cl_base [] rfl (by kernel_rfl)) ?_
          simp only [List.take_succ_cons, List.take_zero, List.drop_succ_cons, List.drop_zero]
          repeat (first | go_big_quiet_step (fail) | (go_big_quiet_want; first | refine quiet_conv mk2 rfl rfl rfl (by simp only [Act.put, List.setIfInBounds_toArray, List.set_cons_succ, List.set_cons_zero]; rfl) ?_; go_big_quiet_on))
          refine wpQuiet_nil ?_
          refine wpMix2_eff (by kernel_rfl) ?_
          go_wp2_with fail
          refine (DN.out _ HP.out.drew.c).mono ?_
          rintro e w7 ⟨v7, rfl, o7, k7⟩
          obtain ⟨A7, cap7, rfl, bs7, -⟩ := o7.shape
          have BS7 := Lib.hid bs7
          have P7 := Lib.hid (HP.out.drew.later k7)
          have G7 := Lib.hid ((k7.blk HBD.out.drew (fun h => h)).cellD 0 _ rfl)
          have S7 := Lib.hid (HBS.out.drew.keeps k7 (fun _ _ _ _ _ h => h))
          clear o7 bs7 k7
          go_wp2
          obtain ⟨mL2S, mL2h⟩ : ∃ S : World → Prop, ∀ w', S w' ↔ (((convert 27 9 (.slice A7 s.l.length cap7)).run Try.prog w' = .ok (.string sm) w')) := ⟨_, fun _ => Iff.rfl⟩
          have mL2k0 : ∀ x : Memb mL2S, (convert 27 9 (.slice A7 s.l.length cap7)).run Try.prog x.at_ = .ok (.string sm) x.at_ := fun x => ((mL2h _).1 x.is)
          have mL2n : Nonempty (Memb mL2S) := ⟨⟨_, (mL2h _).2 (HSM.out ▸ run_str BS7.out)⟩⟩
          have mL2H := Lib.hid mL2h
          clear mL2h
          refine MixK2.late (D := InS mL2S) (x := 2) (by kernel_rfl) (cls_cons (InS.mk ((mL2H.out _).2 (HSM.out ▸ run_str BS7.out))) (cls_base (InS.mk ((mH.out _).2 (⟨G7.out, (HCW.out _ P7.out.keeps).2.1, HSM.out ▸ run_str S7.out⟩))))) ?_
          refine wpMix2_seg 1 (InS mL2S) (by kernel_rfl) (by decide) (cl_one rfl) ?_
          simp only [List.take_succ_cons, List.take_zero, List.drop_succ_cons, List.drop_zero]
          repeat (first | go_big_quiet_step (fail) | (go_big_quiet_want; first | refine quiet_conv mk2 rfl rfl rfl (by simp only [Act.put, List.setIfInBounds_toArray, List.set_cons_succ, List.set_cons_zero]; rfl) ?_; go_big_quiet_on | refine quiet_conv mL2k0 rfl rfl rfl (by simp only [Act.put, List.setIfInBounds_toArray, List.set_cons_succ, List.set_cons_zero]; rfl) ?_; go_big_quiet_on))
          refine wpQuiet_nil ?_
          refine wpMix2_seg 13 (InS mS) (by kernel_rfl) (by decide) (cl_base [2] rfl (by kernel_rfl)) ?_
          simp only [List.take_succ_cons, List.take_zero, List.drop_succ_cons, List.drop_zero]
          repeat (first | go_big_quiet_step (fail) | (go_big_quiet_want; first | refine quiet_conv mk2 rfl rfl rfl (by simp only [Act.put, List.setIfInBounds_toArray, List.set_cons_succ, List.set_cons_zero]; rfl) ?_; go_big_quiet_on | refine quiet_conv mL2k0 rfl rfl rfl (by simp only [Act.put, List.setIfInBounds_toArray, List.set_cons_succ, List.set_cons_zero]; rfl) ?_; go_big_quiet_on))
          refine wpQuiet_nil ?_
          refine wpMix2_eff (by kernel_rfl) ?_
          go_wp2_with fail
          refine (AT.out _ P7.out.t).mono ?_
          rintro e w' ⟨rfl, rfl⟩
          go_wp2
          refine MixK2.on (cls_cons (InS.mk ((mL2H.out _).2 (HSM.out ▸ run_str BS7.out))) (cls_base (InS.mk ((mH.out _).2 (⟨G7.out, (HCW.out _ P7.out.keeps).2.1, HSM.out ▸ run_str S7.out⟩))))) ?_
          refine wpMix2_seg 6 (InS mS) (by kernel_rfl) (by decide) (cl_base [2] rfl (by kernel_rfl)) ?_
          simp only [List.take_succ_cons, List.take_zero, List.drop_succ_cons, List.drop_zero]
          repeat (first | go_big_quiet_step (fail) | (go_big_quiet_want; first | refine quiet_conv mk2 rfl rfl rfl (by simp only [Act.put, List.setIfInBounds_toArray, List.set_cons_succ, List.set_cons_zero]; rfl) ?_; go_big_quiet_on | refine quiet_conv mL2k0 rfl rfl rfl (by simp only [Act.put, List.setIfInBounds_toArray, List.set_cons_succ, List.set_cons_zero]; rfl) ?_; go_big_quiet_on))
          refine wpQuiet_nil ?_
          refine wpMix2_eff (by kernel_rfl) ?_
          go_wp2_with fail
          refine (RAT.out _ P7.out.u).mono ?_
          rintro e w' ⟨rfl, rfl⟩
          go_wp2
          refine MixK2.on (cls_cons (InS.mk ((mL2H.out _).2 (HSM.out ▸ run_str BS7.out))) (cls_base (InS.mk ((mH.out _).2 (⟨G7.out, (HCW.out _ P7.out.keeps).2.1, HSM.out ▸ run_str S7.out⟩))))) ?_
          refine wpMix2_seg 2 (InS mS) (by kernel_rfl) (by decide) (cl_base [2] rfl (by kernel_rfl)) ?_
          simp only [List.take_succ_cons, List.take_zero, List.drop_succ_cons, List.drop_zero]
          repeat (first | go_big_quiet_step (fail) | (go_big_quiet_want; first | refine quiet_conv mk2 rfl rfl rfl (by simp only [Act.put, List.setIfInBounds_toArray, List.set_cons_succ, List.set_cons_zero]; rfl) ?_; go_big_quiet_on | refine quiet_conv mL2k0 rfl rfl rfl (by simp only [Act.put, List.setIfInBounds_toArray, List.set_cons_succ, List.set_cons_zero]; rfl) ?_; go_big_quiet_on))
          refine wpQuiet_nil ?_
          refine wpMix2_nil ?_
          clear mk0 mk1 mk2 mn mH mL2k0 mL2n mL2H
          clear DN AT RAT BS7 S7 G7 g1 e1 HBS HBD
          go_wp2
          go_roundw
          case rel => exact ⟨k + 1, gc, gd, s, ps, qs, by omega, by go_num, P7.out, HI.out⟩
          case measure => simp [intOf]; omega
        · have q2 : (z0 == 2) = false := by simpa using t2
          by_cases t3 : z0 = 3
          · subst t3
            by_cases hv : z2 < 0 ∨ ((2 ^ n : Nat) : Int) ≤ z2
            · have Y := Lib.hid (ctree_out bc bt bp ps n z2 wv HP.out.t HI.out.okp hv)
              have RY := Lib.hid (rctree_out bd bu bq qs n z2 wv HP.out.u HI.out.okq hv)
              have HI5 := Lib.hid (show PI n (k + 1) s ps qs from ⟨HI.out.okp, HI.out.okq, HI.out.agree, HI.out.w0, HI.out.w1, by omega⟩)
              clear hv HI
              go_wp2_with fail
              refine Y.out.mono ?_
              rintro e w' ⟨rfl, rfl⟩
              go_wp2_with fail
              refine RY.out.mono ?_
              rintro e w' ⟨rfl, rfl⟩
              clear Y RY c0 c1 c2
              go_wp2
              obtain ⟨gc, gd, s, ps, qs, HP, HI⟩ : ∃ gc gd s ps qs, Hid (PC W wv B gc gd bc bd bt bp bu bq n s s ps qs) ∧ Hid (PI n (k + 1) s ps qs) := ⟨_, _, _, _, _, HP, HI5⟩
              have DN := Lib.hid (fun w h => cdone_any bc gc s.l s.w w h (by have := HI.out.len; omega))
              have AT := Lib.hid (fun w h => at_any bt bp ps z1 w h HI.out.okp.le HI.out.okp.2.2.2.2)
              have RAT := Lib.hid (fun w h => rat_any bu bq n qs z1 w h HI.out.okq.le)
              rw [HI.out.agree.at_ z1] at RAT
              generalize atN ps z1 = av at *
              obtain ⟨sm, HSM⟩ : ∃ sm, Hid (strOf s.l = sm) := ⟨_, rfl⟩
              obtain ⟨capd, hbd0, hod0, -⟩ := HP.out.d
              have HBD := Lib.hid hbd0
              have g1 := hbd0.cellD 0 _ rfl
              have HBS : Hid (Bs wv (some ⟨gd, 0, none⟩) s.l.length capd s.l) := own_bs hod0
              clear hbd0 hod0
              obtain ⟨-, e1, -⟩ := HCW.out wv HP.out.keeps
              obtain ⟨mS, mh⟩ : ∃ S : World → Prop, ∀ w', S w' ↔ (w'.cell? ⟨bd, 0, none⟩ = some (.slice (some ⟨gd, 0, none⟩) s.l.length capd) ∧ w'.cell? ⟨bl, off + k * 3 + 1, none⟩ = some (.int .i64 z1) ∧ ((convert 27 9 (.slice (some ⟨gd, 0, none⟩) s.l.length capd)).run Try.prog w' = .ok (.string sm) w')) := ⟨_, fun _ => Iff.rfl⟩
              have mk0 : ∀ x : Memb mS, x.at_.cell? ⟨bd, 0, none⟩ = some (.slice (some ⟨gd, 0, none⟩) s.l.length capd) := fun x => ((mh _).1 x.is).1
              have mk1 : ∀ x : Memb mS, x.at_.cell? ⟨bl, off + k * 3 + 1, none⟩ = some (.int .i64 z1) := fun x => ((mh _).1 x.is).2.1
              have mk2 : ∀ x : Memb mS, (convert 27 9 (.slice (some ⟨gd, 0, none⟩) s.l.length capd)).run Try.prog x.at_ = .ok (.string sm) x.at_ := fun x => ((mh _).1 x.is).2.2
              have mn : Nonempty (Memb mS) := ⟨⟨(wv).drew, (mh _).2 ⟨g1, e1, HSM.out ▸ run_str HBS.out.drew⟩⟩⟩
              have mH := Lib.hid mh
              clear mh
              refine wp_region_mix2 [1, 16, 23] (InS mS) (by kernel_rfl) (by kernel_rfl) (InS.mk ((mH.out _).2 ⟨g1, e1, HSM.out ▸ run_str HBS.out.drew⟩)) ?_
              refine wpMix2_seg 1 (InS mS) (by kernel_rfl) (by decide) (cl_base [] rfl (by kernel_rfl)) ?_
              simp only [List.take_succ_cons, List.take_zero, List.drop_succ_cons, List.drop_zero]
              repeat (first | go_big_quiet_step (fail) | (go_big_quiet_want; first | refine quiet_conv mk2 rfl rfl rfl (by simp only [Act.put, List.setIfInBounds_toArray, List.set_cons_succ, List.set_cons_zero]; rfl) ?_; go_big_quiet_on))
              refine wpQuiet_nil ?_
              refine wpMix2_eff (by kernel_rfl) ?_
              go_wp2_with fail
              refine (DN.out _ HP.out.drew.c).mono ?_
              rintro e w7 ⟨v7, rfl, o7, k7⟩
              obtain ⟨A7, cap7, rfl, bs7, -⟩ := o7.shape
              have BS7 := Lib.hid bs7
              have P7 := Lib.hid (HP.out.drew.later k7)
              have G7 := Lib.hid ((k7.blk HBD.out.drew (fun h => h)).cellD 0 _ rfl)
              have S7 := Lib.hid (HBS.out.drew.keeps k7 (fun _ _ _ _ _ h => h))
              clear o7 bs7 k7
              go_wp2
              obtain ⟨mL2S, mL2h⟩ : ∃ S : World → Prop, ∀ w', S w' ↔ (((convert 27 9 (.slice A7 s.l.length cap7)).run Try.prog w' = .ok (.string sm) w')) := ⟨_, fun _ => Iff.rfl⟩
              have mL2k0 : ∀ x : Memb mL2S, (convert 27 9 (.slice A7 s.l.length cap7)).run Try.prog x.at_ = .ok (.string sm) x.at_ := fun x => ((mL2h _).1 x.is)
              have mL2n : Nonempty (Memb mL2S) := ⟨⟨_, (mL2h _).2 (HSM.out ▸ run_str BS7.out)⟩⟩
              have mL2H := Lib.hid mL2h
              clear mL2h
              refine MixK2.late (D := InS mL2S) (x := 2) (by kernel_rfl) (cls_cons (InS.mk ((mL2H.out _).2 (HSM.out ▸ run_str BS7.out))) (cls_base (InS.mk ((mH.out _).2 (⟨G7.out, (HCW.out _ P7.out.keeps).2.1, HSM.out ▸ run_str S7.out⟩))))) ?_
              refine wpMix2_seg 1 (InS mL2S) (by kernel_rfl) (by decide) (cl_one rfl) ?_
              simp only [List.take_succ_cons, List.take_zero, List.drop_succ_cons, List.drop_zero]
              repeat (first | go_big_quiet_step (fail) | (go_big_quiet_want; first | refine quiet_conv mk2 rfl rfl rfl (by simp only [Act.put, List.setIfInBounds_toArray, List.set_cons_succ, List.set_cons_zero]; rfl) ?_; go_big_quiet_on | refine quiet_conv mL2k0 rfl rfl rfl (by simp only [Act.put, List.setIfInBounds_toArray, List.set_cons_succ, List.set_cons_zero]; rfl) ?_; go_big_quiet_on))
              refine wpQuiet_nil ?_
              refine wpMix2_seg 13 (InS mS) (by kernel_rfl) (by decide) (cl_base [2] rfl (by kernel_rfl)) ?_
              simp only [List.take_succ_cons, List.take_zero, List.drop_succ_cons, List.drop_zero]
              repeat (first | go_big_quiet_step (fail) | (go_big_quiet_want; first | refine quiet_conv mk2 rfl rfl rfl (by simp only [Act.put, List.setIfInBounds_toArray, List.set_cons_succ, List.set_cons_zero]; rfl) ?_; go_big_quiet_on | refine quiet_conv mL2k0 rfl rfl rfl (by simp only [Act.put, List.setIfInBounds_toArray, List.set_cons_succ, List.set_cons_zero]; rfl) ?_; go_big_quiet_on))
              refine wpQuiet_nil ?_
              refine wpMix2_eff (by kernel_rfl) ?_
              go_wp2_with fail
              refine (AT.out _ P7.out.t).mono ?_
              rintro e w' ⟨rfl, rfl⟩
              go_wp2
              refine MixK2.on (cls_cons (InS.mk ((mL2H.out _).2 (HSM.out ▸ run_str BS7.out))) (cls_base (InS.mk ((mH.out _).2 (⟨G7.out, (HCW.out _ P7.out.keeps).2.1, HSM.out ▸ run_str S7.out⟩))))) ?_
              refine wpMix2_seg 6 (InS mS) (by kernel_rfl) (by decide) (cl_base [2] rfl (by kernel_rfl)) ?_
              simp only [List.take_succ_cons, List.take_zero, List.drop_succ_cons, List.drop_zero]
              repeat (first | go_big_quiet_step (fail) | (go_big_quiet_want; first | refine quiet_conv mk2 rfl rfl rfl (by simp only [Act.put, List.setIfInBounds_toArray, List.set_cons_succ, List.set_cons_zero]; rfl) ?_; go_big_quiet_on | refine quiet_conv mL2k0 rfl rfl rfl (by simp only [Act.put, List.setIfInBounds_toArray, List.set_cons_succ, List.set_cons_zero]; rfl) ?_; go_big_quiet_on))
              refine wpQuiet_nil ?_
              refine wpMix2_eff (by kernel_rfl) ?_
              go_wp2_with fail
              refine (RAT.out _ P7.out.u).mono ?_
              rintro e w' ⟨rfl, rfl⟩
              go_wp2
              refine MixK2.on (cls_cons (InS.mk ((mL2H.out _).2 (HSM.out ▸ run_str BS7.out))) (cls_base (InS.mk ((mH.out _).2 (⟨G7.out, (HCW.out _ P7.out.keeps).2.1, HSM.out ▸ run_str S7.out⟩))))) ?_
              refine wpMix2_seg 2 (InS mS) (by kernel_rfl) (by decide) (cl_base [2] rfl (by kernel_rfl)) ?_
              simp only [List.take_succ_cons, List.take_zero, List.drop_succ_cons, List.drop_zero]
              repeat (first | go_big_quiet_step (fail) | (go_big_quiet_want; first | refine quiet_conv mk2 rfl rfl rfl (by simp only [Act.put, List.setIfInBounds_toArray, List.set_cons_succ, List.set_cons_zero]; rfl) ?_; go_big_quiet_on | refine quiet_conv mL2k0 rfl rfl rfl (by simp only [Act.put, List.setIfInBounds_toArray, List.set_cons_succ, List.set_cons_zero]; rfl) ?_; go_big_quiet_on))
              refine wpQuiet_nil ?_
              refine wpMix2_nil ?_
              clear mk0 mk1 mk2 mn mH mL2k0 mL2n mL2H
              clear DN AT RAT BS7 S7 G7 g1 e1 HBS HBD
              go_wp2
              go_roundw
              case rel => exact ⟨k + 1, gc, gd, s, ps, qs, by omega, by go_num, P7.out, HI.out⟩
              case measure => simp [intOf]; omega
            · obtain ⟨v, rfl⟩ : ∃ v : Nat, z2 = v := ⟨z2.toNat, by omega⟩
              have hv2 : v < 2 ^ n := by
                rcases Nat.lt_or_ge v (2 ^ n) with h | h
                · exact h
                · exact absurd (.inr (Int.ofNat_le.2 h)) hv
              have ch := HP.out.chain
              have cg := HP.out.gcw
              have cd := HP.out.gdw
              have Y := Lib.hid (ctree_in bc gc bt bp s ps n v wv HP.out.c HP.out.t HI.out.okp w0 w1' (by omega) (by omega) (by omega) (by omega) (by omega) hv2)
              have RY := Lib.hid (fun w h h2 => rctree_in bd gd bu bq s qs n v w h h2 HI.out.okq w0 w1' (by omega) (by omega) (by omega) (by omega) (by omega) hv2)
              have agr := tRun_agree v n ⟨s, ps, 1⟩ ⟨s, qs, 1⟩ rfl rfl HI.out.agree
              rw [← agr.1] at RY
              have L1 := (TLoop.start v HI.out.okp w0 w1').fin
              have L2 := (TLoop.start v HI.out.okq w0 w1').fin
              have n8 := HI.out.okp.2.2.1
              have HI5 := Lib.hid (show PI n (k + 1) (tRun v n ⟨s, ps, 1⟩).c (tRun v n ⟨s, ps, 1⟩).ps (tRun v n ⟨s, qs, 1⟩).ps from ⟨L1.ok, L2.ok, agr.2, L1.w0, L1.w1, by have := L1.len; omega⟩)
              clear agr L1 L2 hv hv2 HI ch cg cd
              generalize (tRun v n ⟨s, ps, 1⟩).c = s5 at *
              generalize (tRun v n ⟨s, ps, 1⟩).ps = ps5 at *
              generalize (tRun v n ⟨s, qs, 1⟩).ps = qs5 at *
              go_wp2_with fail
              refine Y.out.mono ?_
              rintro e w4 ⟨rfl, g4, hg4, h4, h4t, k4⟩
              have HP4 := Lib.hid (HP.out.stepCT hg4 h4 h4t k4)
              obtain ⟨-, -, d2⟩ := HCW.out w4 HP4.out.keeps
              clear hg4 h4 h4t k4
              go_wp2_with fail
              refine (RY.out _ HP4.out.d HP4.out.u).mono ?_
              rintro e w5 ⟨rfl, g5, hg5, h5, h5t, k5⟩
              have HP5 := Lib.hid (HP4.out.stepDT hg5 h5 h5t k5)
              clear hg5 h5 h5t k5 c0 c1 c2 Y RY HP HP4 d2
              go_wp2
              obtain ⟨gc, gd, s, ps, qs, HP, HI⟩ : ∃ gc gd s ps qs, Hid (PC W w5 B gc gd bc bd bt bp bu bq n s s ps qs) ∧ Hid (PI n (k + 1) s ps qs) := ⟨_, _, _, _, _, HP5, HI5⟩
              have DN := Lib.hid (fun w h => cdone_any bc gc s.l s.w w h (by have := HI.out.len; omega))
              have AT := Lib.hid (fun w h => at_any bt bp ps z1 w h HI.out.okp.le HI.out.okp.2.2.2.2)
              have RAT := Lib.hid (fun w h => rat_any bu bq n qs z1 w h HI.out.okq.le)
              rw [HI.out.agree.at_ z1] at RAT
              generalize atN ps z1 = av at *
              obtain ⟨sm, HSM⟩ : ∃ sm, Hid (strOf s.l = sm) := ⟨_, rfl⟩
              obtain ⟨capd, hbd0, hod0, -⟩ := HP.out.d
              have HBD := Lib.hid hbd0
              have g1 := hbd0.cellD 0 _ rfl
              have HBS : Hid (Bs w5 (some ⟨gd, 0, none⟩) s.l.length capd s.l) := own_bs hod0
              clear hbd0 hod0
              obtain ⟨-, e1, -⟩ := HCW.out w5 HP.out.keeps
              obtain ⟨mS, mh⟩ : ∃ S : World → Prop, ∀ w', S w' ↔ (w'.cell? ⟨bd, 0, none⟩ = some (.slice (some ⟨gd, 0, none⟩) s.l.length capd) ∧ w'.cell? ⟨bl, off + k * 3 + 1, none⟩ = some (.int .i64 z1) ∧ ((convert 27 9 (.slice (some ⟨gd, 0, none⟩) s.l.length capd)).run Try.prog w' = .ok (.string sm) w')) := ⟨_, fun _ => Iff.rfl⟩
              have mk0 : ∀ x : Memb mS, x.at_.cell? ⟨bd, 0, none⟩ = some (.slice (some ⟨gd, 0, none⟩) s.l.length capd) := fun x => ((mh _).1 x.is).1
              have mk1 : ∀ x : Memb mS, x.at_.cell? ⟨bl, off + k * 3 + 1, none⟩ = some (.int .i64 z1) := fun x => ((mh _).1 x.is).2.1
              have mk2 : ∀ x : Memb mS, (convert 27 9 (.slice (some ⟨gd, 0, none⟩) s.l.length capd)).run Try.prog x.at_ = .ok (.string sm) x.at_ := fun x => ((mh _).1 x.is).2.2
              have mn : Nonempty (Memb mS) := ⟨⟨(w5).drew, (mh _).2 ⟨g1, e1, HSM.out ▸ run_str HBS.out.drew⟩⟩⟩
              have mH := Lib.hid mh
              clear mh
              refine wp_region_mix2 [1, 16, 23] (InS mS) (by kernel_rfl) (by kernel_rfl) (InS.mk ((mH.out _).2 ⟨g1, e1, HSM.out ▸ run_str HBS.out.drew⟩)) ?_
              refine wpMix2_seg 1 (InS mS) (by kernel_rfl) (by decide) (cl_base [] rfl (by kernel_rfl)) ?_
              simp only [List.take_succ_cons, List.take_zero, List.drop_succ_cons, List.drop_zero]
              repeat (first | go_big_quiet_step (fail) | (go_big_quiet_want; first | refine quiet_conv mk2 rfl rfl rfl (by simp only [Act.put, List.setIfInBounds_toArray, List.set_cons_succ, List.set_cons_zero]; rfl) ?_; go_big_quiet_on))
              refine wpQuiet_nil ?_
              refine wpMix2_eff (by kernel_rfl) ?_
              go_wp2_with fail
              refine (DN.out _ HP.out.drew.c).mono ?_
              rintro e w7 ⟨v7, rfl, o7, k7⟩
              obtain ⟨A7, cap7, rfl, bs7, -⟩ := o7.shape
              have BS7 := Lib.hid bs7
              have P7 := Lib.hid (HP.out.drew.later k7)
              have G7 := Lib.hid ((k7.blk HBD.out.drew (fun h => h)).cellD 0 _ rfl)
              have S7 := Lib.hid (HBS.out.drew.keeps k7 (fun _ _ _ _ _ h => h))
              clear o7 bs7 k7
              go_wp2
              obtain ⟨mL2S, mL2h⟩ : ∃ S : World → Prop, ∀ w', S w' ↔ (((convert 27 9 (.slice A7 s.l.length cap7)).run Try.prog w' = .ok (.string sm) w')) := ⟨_, fun _ => Iff.rfl⟩
              have mL2k0 : ∀ x : Memb mL2S, (convert 27 9 (.slice A7 s.l.length cap7)).run Try.prog x.at_ = .ok (.string sm) x.at_ := fun x => ((mL2h _).1 x.is)
              have mL2n : Nonempty (Memb mL2S) := ⟨⟨_, (mL2h _).2 (HSM.out ▸ run_str BS7.out)⟩⟩
              have mL2H := Lib.hid mL2h
              clear mL2h
              refine MixK2.late (D := InS mL2S) (x := 2) (by kernel_rfl) (cls_cons (InS.mk ((mL2H.out _).2 (HSM.out ▸ run_str BS7.out))) (cls_base (InS.mk ((mH.out _).2 (⟨G7.out, (HCW.out _ P7.out.keeps).2.1, HSM.out ▸ run_str S7.out⟩))))) ?_
              refine wpMix2_seg 1 (InS mL2S) (by kernel_rfl) (by decide) (cl_one rfl) ?_
              simp only [List.take_succ_cons, List.take_zero, List.drop_succ_cons, List.drop_zero]
              repeat (first | go_big_quiet_step (fail) | (go_big_quiet_want; first | refine quiet_conv mk2 rfl rfl rfl (by simp only [Act.put, List.setIfInBounds_toArray, List.set_cons_succ, List.set_cons_zero]; rfl) ?_; go_big_quiet_on | refine quiet_conv mL2k0 rfl rfl rfl (by simp only [Act.put, List.setIfInBounds_toArray, List.set_cons_succ, List.set_cons_zero]; rfl) ?_; go_big_quiet_on))
              refine wpQuiet_nil ?_
              refine wpMix2_seg 13 (InS mS) (by kernel_rfl) (by decide) (cl_base [2] rfl (by kernel_rfl)) ?_
              simp only [List.take_succ_cons, List.take_zero, List.drop_succ_cons, List.drop_zero]
              repeat (first | go_big_quiet_step (fail) | (go_big_quiet_want; first | refine quiet_conv mk2 rfl rfl rfl (by simp only [Act.put, List.setIfInBounds_toArray, List.set_cons_succ, List.set_cons_zero]; rfl) ?_; go_big_quiet_on | refine quiet_conv mL2k0 rfl rfl rfl (by simp only [Act.put, List.setIfInBounds_toArray, List.set_cons_succ, List.set_cons_zero]; rfl) ?_; go_big_quiet_on))
              refine wpQuiet_nil ?_
              refine wpMix2_eff (by kernel_rfl) ?_
              go_wp2_with fail
              refine (AT.out _ P7.out.t).mono ?_
              rintro e w' ⟨rfl, rfl⟩
              go_wp2
              refine MixK2.on (cls_cons (InS.mk ((mL2H.out _).2 (HSM.out ▸ run_str BS7.out))) (cls_base (InS.mk ((mH.out _).2 (⟨G7.out, (HCW.out _ P7.out.keeps).2.1, HSM.out ▸ run_str S7.out⟩))))) ?_
              refine wpMix2_seg 6 (InS mS) (by kernel_rfl) (by decide) (cl_base [2] rfl (by kernel_rfl)) ?_
              simp only [List.take_succ_cons, List.take_zero, List.drop_succ_cons, List.drop_zero]
              repeat (first | go_big_quiet_step (fail) | (go_big_quiet_want; first | refine quiet_conv mk2 rfl rfl rfl (by simp only [Act.put, List.setIfInBounds_toArray, List.set_cons_succ, List.set_cons_zero]; rfl) ?_; go_big_quiet_on | refine quiet_conv mL2k0 rfl rfl rfl (by simp only [Act.put, List.setIfInBounds_toArray, List.set_cons_succ, List.set_cons_zero]; rfl) ?_; go_big_quiet_on))
              refine wpQuiet_nil ?_
              refine wpMix2_eff (by kernel_rfl) ?_
              go_wp2_with fail
              refine (RAT.out _ P7.out.u).mono ?_
              rintro e w' ⟨rfl, rfl⟩
              go_wp2
              refine MixK2.on (cls_cons (InS.mk ((mL2H.out _).2 (HSM.out ▸ run_str BS7.out))) (cls_base (InS.mk ((mH.out _).2 (⟨G7.out, (HCW.out _ P7.out.keeps).2.1, HSM.out ▸ run_str S7.out⟩))))) ?_
              refine wpMix2_seg 2 (InS mS) (by kernel_rfl) (by decide) (cl_base [2] rfl (by kernel_rfl)) ?_
              simp only [List.take_succ_cons, List.take_zero, List.drop_succ_cons, List.drop_zero]
              repeat (first | go_big_quiet_step (fail) | (go_big_quiet_want; first | refine quiet_conv mk2 rfl rfl rfl (by simp only [Act.put, List.setIfInBounds_toArray, List.set_cons_succ, List.set_cons_zero]; rfl) ?_; go_big_quiet_on | refine quiet_conv mL2k0 rfl rfl rfl (by simp only [Act.put, List.setIfInBounds_toArray, List.set_cons_succ, List.set_cons_zero]; rfl) ?_; go_big_quiet_on))
              refine wpQuiet_nil ?_
              refine wpMix2_nil ?_
              clear mk0 mk1 mk2 mn mH mL2k0 mL2n mL2H
              clear DN AT RAT BS7 S7 G7 g1 e1 HBS HBD
              go_wp2
              go_roundw
              case rel => exact ⟨k + 1, gc, gd, s, ps, qs, by omega, by go_num, P7.out, HI.out⟩
              case measure => simp [intOf]; omega
          · have q3 : (z0 == 3) = false := by simpa using t3
            clear t1 t2 t3
            go_wp2
            obtain ⟨gc, gd, s, ps, qs, HP, HI⟩ : ∃ gc gd s ps qs, Hid (PC W wv B gc gd bc bd bt bp bu bq n s s ps qs) ∧ Hid (PI n (k + 1) s ps qs) := ⟨_, _, _, _, _, HP, (⟨HI.out.okp, HI.out.okq, HI.out.agree, HI.out.w0, HI.out.w1, by have := HI.out.len; omega⟩ : PI n (k + 1) s ps qs)⟩
            have DN := Lib.hid (fun w h => cdone_any bc gc s.l s.w w h (by have := HI.out.len; omega))
            have AT := Lib.hid (fun w h => at_any bt bp ps z1 w h HI.out.okp.le HI.out.okp.2.2.2.2)
            have RAT := Lib.hid (fun w h => rat_any bu bq n qs z1 w h HI.out.okq.le)
            rw [HI.out.agree.at_ z1] at RAT
            generalize atN ps z1 = av at *
            obtain ⟨sm, HSM⟩ : ∃ sm, Hid (strOf s.l = sm) := ⟨_, rfl⟩
            obtain ⟨capd, hbd0, hod0, -⟩ := HP.out.d
            have HBD := Lib.hid hbd0
            have g1 := hbd0.cellD 0 _ rfl
            have HBS : Hid (Bs wv (some ⟨gd, 0, none⟩) s.l.length capd s.l) := own_bs hod0
            clear hbd0 hod0
            obtain ⟨-, e1, -⟩ := HCW.out wv HP.out.keeps
            obtain ⟨mS, mh⟩ : ∃ S : World → Prop, ∀ w', S w' ↔ (w'.cell? ⟨bd, 0, none⟩ = some (.slice (some ⟨gd, 0, none⟩) s.l.length capd) ∧ w'.cell? ⟨bl, off + k * 3 + 1, none⟩ = some (.int .i64 z1) ∧ ((convert 27 9 (.slice (some ⟨gd, 0, none⟩) s.l.length capd)).run Try.prog w' = .ok (.string sm) w')) := ⟨_, fun _ => Iff.rfl⟩
            have mk0 : ∀ x : Memb mS, x.at_.cell? ⟨bd, 0, none⟩ = some (.slice (some ⟨gd, 0, none⟩) s.l.length capd) := fun x => ((mh _).1 x.is).1
            have mk1 : ∀ x : Memb mS, x.at_.cell? ⟨bl, off + k * 3 + 1, none⟩ = some (.int .i64 z1) := fun x => ((mh _).1 x.is).2.1
            have mk2 : ∀ x : Memb mS, (convert 27 9 (.slice (some ⟨gd, 0, none⟩) s.l.length capd)).run Try.prog x.at_ = .ok (.string sm) x.at_ := fun x => ((mh _).1 x.is).2.2
            have mn : Nonempty (Memb mS) := ⟨⟨(wv).drew, (mh _).2 ⟨g1, e1, HSM.out ▸ run_str HBS.out.drew⟩⟩⟩
            have mH := Lib.hid mh
            clear mh
            refine wp_region_mix2 [1, 16, 23] (InS mS) (by kernel_rfl) (by kernel_rfl) (InS.mk ((mH.out _).2 ⟨g1, e1, HSM.out ▸ run_str HBS.out.drew⟩)) ?_
            refine wpMix2_seg 1 (InS mS) (by kernel_rfl) (by decide) (cl_base [] rfl (by kernel_rfl)) ?_
            simp only [List.take_succ_cons, List.take_zero, List.drop_succ_cons, List.drop_zero]
            repeat (first | go_big_quiet_step (fail) | (go_big_quiet_want; first | refine quiet_conv mk2 rfl rfl rfl (by simp only [Act.put, List.setIfInBounds_toArray, List.set_cons_succ, List.set_cons_zero]; rfl) ?_; go_big_quiet_on))
            refine wpQuiet_nil ?_
            refine wpMix2_eff (by kernel_rfl) ?_
            go_wp2_with fail
            refine (DN.out _ HP.out.drew.c).mono ?_
            rintro e w7 ⟨v7, rfl, o7, k7⟩
            obtain ⟨A7, cap7, rfl, bs7, -⟩ := o7.shape
            have BS7 := Lib.hid bs7
            have P7 := Lib.hid (HP.out.drew.later k7)
            have G7 := Lib.hid ((k7.blk HBD.out.drew (fun h => h)).cellD 0 _ rfl)
            have S7 := Lib.hid (HBS.out.drew.keeps k7 (fun _ _ _ _ _ h => h))
            clear o7 bs7 k7
            go_wp2
            obtain ⟨mL2S, mL2h⟩ : ∃ S : World → Prop, ∀ w', S w' ↔ (((convert 27 9 (.slice A7 s.l.length cap7)).run Try.prog w' = .ok (.string sm) w')) := ⟨_, fun _ => Iff.rfl⟩
            have mL2k0 : ∀ x : Memb mL2S, (convert 27 9 (.slice A7 s.l.length cap7)).run Try.prog x.at_ = .ok (.string sm) x.at_ := fun x => ((mL2h _).1 x.is)
            have mL2n : Nonempty (Memb mL2S) := ⟨⟨_, (mL2h _).2 (HSM.out ▸ run_str BS7.out)⟩⟩
            have mL2H := Lib.hid mL2h
            clear mL2h
            refine MixK2.late (D := InS mL2S) (x := 2) (by kernel_rfl) (cls_cons (InS.mk ((mL2H.out _).2 (HSM.out ▸ run_str BS7.out))) (cls_base (InS.mk ((mH.out _).2 (⟨G7.out, (HCW.out _ P7.out.keeps).2.1, HSM.out ▸ run_str S7.out⟩))))) ?_
            refine wpMix2_seg 1 (InS mL2S) (by kernel_rfl) (by decide) (cl_one rfl) ?_
            simp only [List.take_succ_cons, List.take_zero, List.drop_succ_cons, List.drop_zero]
            repeat (first | go_big_quiet_step (fail) | (go_big_quiet_want; first | refine quiet_conv mk2 rfl rfl rfl (by simp only [Act.put, List.setIfInBounds_toArray, List.set_cons_succ, List.set_cons_zero]; rfl) ?_; go_big_quiet_on | refine quiet_conv mL2k0 rfl rfl rfl (by simp only [Act.put, List.setIfInBounds_toArray, List.set_cons_succ, List.set_cons_zero]; rfl) ?_; go_big_quiet_on))
            refine wpQuiet_nil ?_
            refine wpMix2_seg 13 (InS mS) (by kernel_rfl) (by decide) (cl_base [2] rfl (by kernel_rfl)) ?_
            simp only [List.take_succ_cons, List.take_zero, List.drop_succ_cons, List.drop_zero]
            repeat (first | go_big_quiet_step (fail) | (go_big_quiet_want; first | refine quiet_conv mk2 rfl rfl rfl (by simp only [Act.put, List.setIfInBounds_toArray, List.set_cons_succ, List.set_cons_zero]; rfl) ?_; go_big_quiet_on | refine quiet_conv mL2k0 rfl rfl rfl (by simp only [Act.put, List.setIfInBounds_toArray, List.set_cons_succ, List.set_cons_zero]; rfl) ?_; go_big_quiet_on))
            refine wpQuiet_nil ?_
            refine wpMix2_eff (by kernel_rfl) ?_
            go_wp2_with fail
            refine (AT.out _ P7.out.t).mono ?_
            rintro e w' ⟨rfl, rfl⟩
            go_wp2
            refine MixK2.on (cls_cons (InS.mk ((mL2H.out _).2 (HSM.out ▸ run_str BS7.out))) (cls_base (InS.mk ((mH.out _).2 (⟨G7.out, (HCW.out _ P7.out.keeps).2.1, HSM.out ▸ run_str S7.out⟩))))) ?_
            refine wpMix2_seg 6 (InS mS) (by kernel_rfl) (by decide) (cl_base [2] rfl (by kernel_rfl)) ?_
            simp only [List.take_succ_cons, List.take_zero, List.drop_succ_cons, List.drop_zero]
            repeat (first | go_big_quiet_step (fail) | (go_big_quiet_want; first | refine quiet_conv mk2 rfl rfl rfl (by simp only [Act.put, List.setIfInBounds_toArray, List.set_cons_succ, List.set_cons_zero]; rfl) ?_; go_big_quiet_on | refine quiet_conv mL2k0 rfl rfl rfl (by simp only [Act.put, List.setIfInBounds_toArray, List.set_cons_succ, List.set_cons_zero]; rfl) ?_; go_big_quiet_on))
            refine wpQuiet_nil ?_
            refine wpMix2_eff (by kernel_rfl) ?_
            go_wp2_with fail
            refine (RAT.out _ P7.out.u).mono ?_
            rintro e w' ⟨rfl, rfl⟩
            go_wp2
            refine MixK2.on (cls_cons (InS.mk ((mL2H.out _).2 (HSM.out ▸ run_str BS7.out))) (cls_base (InS.mk ((mH.out _).2 (⟨G7.out, (HCW.out _ P7.out.keeps).2.1, HSM.out ▸ run_str S7.out⟩))))) ?_
            refine wpMix2_seg 2 (InS mS) (by kernel_rfl) (by decide) (cl_base [2] rfl (by kernel_rfl)) ?_
            simp only [List.take_succ_cons, List.take_zero, List.drop_succ_cons, List.drop_zero]
            repeat (first | go_big_quiet_step (fail) | (go_big_quiet_want; first | refine quiet_conv mk2 rfl rfl rfl (by simp only [Act.put, List.setIfInBounds_toArray, List.set_cons_succ, List.set_cons_zero]; rfl) ?_; go_big_quiet_on | refine quiet_conv mL2k0 rfl rfl rfl (by simp only [Act.put, List.setIfInBounds_toArray, List.set_cons_succ, List.set_cons_zero]; rfl) ?_; go_big_quiet_on))
            refine wpQuiet_nil ?_
            refine wpMix2_nil ?_
            clear mk0 mk1 mk2 mn mH mL2k0 mL2n mL2H
            clear DN AT RAT BS7 S7 G7 g1 e1 HBS HBD
            go_wp2
            go_roundw
            case rel => exact ⟨k + 1, gc, gd, s, ps, qs, by omega, by go_num, P7.out, HI.out⟩
            case measure => simp [intOf]; omega
    · obtain ⟨wv, rfl⟩ : ∃ x, x = wr := ⟨_, rfl⟩
      have HP := Lib.hid hP
      have DN := Lib.hid (fun w h => cdone_any bc gc s.l s.w w h (by have := hI.len; omega))
      obtain ⟨sm, HSM⟩ : ∃ sm, Hid (strOf s.l = sm) := ⟨_, rfl⟩
      obtain ⟨capd, hbd0, hod0, -⟩ := hP.d
      have HBD := Lib.hid hbd0
      have g1 := hbd0.cellD 0 _ rfl
      have HBS : Hid (Bs wv (some ⟨gd, 0, none⟩) s.l.length capd s.l) := own_bs hod0
      clear hbd0 hod0 hP hI
      go_wp2
      obtain ⟨mS, mh⟩ : ∃ S : World → Prop, ∀ w', S w' ↔ (w'.cell? ⟨bd, 0, none⟩ = some (.slice (some ⟨gd, 0, none⟩) s.l.length capd) ∧ ((convert 27 9 (.slice (some ⟨gd, 0, none⟩) s.l.length capd)).run Try.prog w' = .ok (.string sm) w')) := ⟨_, fun _ => Iff.rfl⟩
      have mk0 : ∀ x : Memb mS, x.at_.cell? ⟨bd, 0, none⟩ = some (.slice (some ⟨gd, 0, none⟩) s.l.length capd) := fun x => ((mh _).1 x.is).1
      have mk1 : ∀ x : Memb mS, (convert 27 9 (.slice (some ⟨gd, 0, none⟩) s.l.length capd)).run Try.prog x.at_ = .ok (.string sm) x.at_ := fun x => ((mh _).1 x.is).2
      have mn : Nonempty (Memb mS) := ⟨⟨(wv).drew, (mh _).2 ⟨g1, HSM.out ▸ run_str HBS.out.drew⟩⟩⟩
      have mH := Lib.hid mh
      clear mh
      refine wp_region_mix2 [1] (InS mS) (by kernel_rfl) (by kernel_rfl) (InS.mk ((mH.out _).2 ⟨g1, HSM.out ▸ run_str HBS.out.drew⟩)) ?_
      refine wpMix2_seg 1 (InS mS) (by kernel_rfl) (by decide) (cl_base [] rfl (by kernel_rfl)) ?_
      simp only [List.take_succ_cons, List.take_zero, List.drop_succ_cons, List.drop_zero]
      repeat (first | go_big_quiet_step (fail) | (go_big_quiet_want; first | refine quiet_conv mk1 rfl rfl rfl (by simp only [Act.put, List.setIfInBounds_toArray, List.set_cons_succ, List.set_cons_zero]; rfl) ?_; go_big_quiet_on))
      refine wpQuiet_nil ?_
      refine wpMix2_eff (by kernel_rfl) ?_
      go_wp2_with fail
      refine (DN.out _ HP.out.drew.c).mono ?_
      rintro e w7 ⟨v7, rfl, o7, k7⟩
      obtain ⟨A7, cap7, rfl, bs7, -⟩ := o7.shape
      have BS7 := Lib.hid bs7
      have P7 := Lib.hid (HP.out.drew.later k7)
      have G7 := Lib.hid ((k7.blk HBD.out.drew (fun h => h)).cellD 0 _ rfl)
      have S7 := Lib.hid (HBS.out.drew.keeps k7 (fun _ _ _ _ _ h => h))
      clear o7 bs7 k7
      go_wp2
      obtain ⟨mL2S, mL2h⟩ : ∃ S : World → Prop, ∀ w', S w' ↔ (((convert 27 9 (.slice A7 s.l.length cap7)).run Try.prog w' = .ok (.string sm) w')) := ⟨_, fun _ => Iff.rfl⟩
      have mL2k0 : ∀ x : Memb mL2S, (convert 27 9 (.slice A7 s.l.length cap7)).run Try.prog x.at_ = .ok (.string sm) x.at_ := fun x => ((mL2h _).1 x.is)
      have mL2n : Nonempty (Memb mL2S) := ⟨⟨_, (mL2h _).2 (HSM.out ▸ run_str BS7.out)⟩⟩
      have mL2H := Lib.hid mL2h
      clear mL2h
      refine MixK2.late (D := InS mL2S) (x := 2) (by kernel_rfl) (cls_cons (InS.mk ((mL2H.out _).2 (HSM.out ▸ run_str BS7.out))) (cls_base (InS.mk ((mH.out _).2 (⟨G7.out, HSM.out ▸ run_str S7.out⟩))))) ?_
      refine wpMix2_seg 1 (InS mL2S) (by kernel_rfl) (by decide) (cl_one rfl) ?_
      simp only [List.take_succ_cons, List.take_zero, List.drop_succ_cons, List.drop_zero]
      repeat (first | go_big_quiet_step (fail) | (go_big_quiet_want; first | refine quiet_conv mk1 rfl rfl rfl (by simp only [Act.put, List.setIfInBounds_toArray, List.set_cons_succ, List.set_cons_zero]; rfl) ?_; go_big_quiet_on | refine quiet_conv mL2k0 rfl rfl rfl (by simp only [Act.put, List.setIfInBounds_toArray, List.set_cons_succ, List.set_cons_zero]; rfl) ?_; go_big_quiet_on))
      refine wpQuiet_nil ?_
      refine wpMix2_seg 7 (InS mS) (by kernel_rfl) (by decide) (cl_base [2] rfl (by kernel_rfl)) ?_
      simp only [List.take_succ_cons, List.take_zero, List.drop_succ_cons, List.drop_zero]
      repeat (first | go_big_quiet_step (fail) | (go_big_quiet_want; first | refine quiet_conv mk1 rfl rfl rfl (by simp only [Act.put, List.setIfInBounds_toArray, List.set_cons_succ, List.set_cons_zero]; rfl) ?_; go_big_quiet_on | refine quiet_conv mL2k0 rfl rfl rfl (by simp only [Act.put, List.setIfInBounds_toArray, List.set_cons_succ, List.set_cons_zero]; rfl) ?_; go_big_quiet_on))
      refine wpQuiet_nil ?_
      refine wpMix2_nil ?_
      clear mk0 mk1 mn mH mL2k0 mL2n mL2H
      go_wp2
      go_ret
      exact ⟨by simp, P7.out.keeps.below (fun i hi h => by omega)⟩
set_option maxRecDepth 100000 in
theorem CoderPlays_lifted (os : Os) (started : os.Started) (H : Type) (enc : TypeId × Value → H) :
    ReturnsInHanded {} Try.checked os 8 .any (Rows.coderPlaysSpec.pre6 enc Try.prog Try.f8 Rows.coderPlaysRow.domain false) (Rows.coderPlaysSpec.post enc Try.prog Try.f8 false true false false) := by
  refine returnsInHanded_of_change (C := Try.checked) Try.own started (by kernel_rfl) Try.func8
    (ChangeSpec.witness6 (enc := enc) (C := Try.checked) false ⟨#[], #[.int .i64 0, .slice none 0 0], []⟩ 8 (by kernel_rfl) (by kernel_rfl) (by kernel_rfl) (by kernel_rfl)) ?_
  intro W base args ds gs before hval0 hW hcnd _
  have hval : ∀ (j : Nat) t v, Try.f8.params[j]? = some t → args[j]? = some v → Value.okWide Try.prog W .any base t v := hval0
  have hW' := hW
  obtain ⟨p, q, hA0, hV, rfl, hfz, hnd⟩ := hW
  have hA : DataW.TrodAll enc Try.prog W 0 (fun _ => true) true Try.f8.params.toList args.toList ds p := hA0
  rw [Try.params8] at hA hval
  obtain ⟨v0, vs0, d0, ds0, p0, q0, hargs, rfl, rfl, h0, r0⟩ := trodAll_cons hA
  obtain ⟨v1, vs1, d1, ds1, p1, q1, rfl, rfl, rfl, h1, r1⟩ := trodAll_cons r0
  obtain ⟨rfl, rfl, rfl⟩ := trodAll_nil r1
  obtain rfl : args = #[v0, v1] := by cases args; simp_all
  obtain ⟨rfl, rfl⟩ := trodVars_none hV
  have k0 := h0
  have lt0 : ∀ x ∈ p0, x.block < W.heap.size := by obtain ⟨m, hm⟩ := k0; exact DataW.trod_lt m _ _ _ hm
  obtain ⟨a0, rfl, rfl, rfl, w0⟩ := open_int Try.underlying3 (hval 0 3 v0 rfl rfl) h0
  have k1 := h1
  have lt1 : ∀ x ∈ p1, x.block < W.heap.size := by obtain ⟨m, hm⟩ := k1; exact DataW.trod_lt m _ _ _ hm
  obtain ⟨a1, len1, cap1, rfl⟩ := okWide_slice Try.underlying59 (hval 1 59 v1 rfl rfl)
  obtain ⟨z1, s1, f1⟩ := open_structs' Try.underlying59 Try.underlying69 (by kernel_rfl) (by kernel_rfl) (by decide) h1
  clear hA0 hval0
  refine (plays16_any a0 a1 len1 cap1 z1 W s1 (fun i hi => by obtain ⟨y0, e0, _⟩ := fld_int f1 (j := 0) rfl Try.underlying3 hi; obtain ⟨y1, e1, _⟩ := fld_int f1 (j := 1) rfl Try.underlying3 hi; obtain ⟨y2, e2, _⟩ := fld_int f1 (j := 2) rfl Try.underlying3 hi; exact ⟨y0, y1, y2, e0, e1, e2⟩)).mono fun e W' ⟨he, bel⟩ => ?_
  subst he
  exact ⟨_, rfl, _, _, _, [], _, [], hW', trodAll_mk1 (shut_bool Try.underlying4 _), (trodAll_cons_mk (Below.trod Try.laidOut (by kernel_rfl) (of_decide_eq_true (by kernel_rfl)) k0 bel lt0) (trodAll_cons_mk (Below.trod Try.laidOut (by kernel_rfl) (of_decide_eq_true (by kernel_rfl)) k1 bel lt1) trodAll_mk0)), rfl, bel.frame _, fun h => by cases h⟩

set_option maxRecDepth 100000 in
theorem CoderPlays_closed : joinedFacts Try.checked.prog 8 Try.f8 Rows.coderPlaysSpec Rows.coderPlaysRow = true := by
  unfold joinedFacts
  rw [closed_laid, closed_maps, closed_heard, closed_plain, closed_mayEnter, closed_lifts, closed_make]
  kernel_rfl

theorem CoderPlays_holds : Rows.CoderPlaysSaid :=
  OpenClaim.holds_of_wide 8 Try.f8 rfl rfl rfl rfl rfl rfl rfl ⟨rfl, rfl, rfl, rfl, rfl⟩ rfl rfl rfl rfl rfl (by kernel_rfl) Try.func8 CoderPlays_closed
    (of_decide_eq_true (by kernel_rfl)) (by unfold Func.isWrapper; first | (rw [if_pos (by decide +kernel)]; kernel_rfl) | (rw [if_neg (by decide +kernel)]; exact ⟨rfl, rfl⟩))
    (fun os started H enc _ => CoderPlays_lifted os started H enc)
#print axioms CoderPlays_holds
end Go.Proofs.Yteokbedjcnfgiaa
