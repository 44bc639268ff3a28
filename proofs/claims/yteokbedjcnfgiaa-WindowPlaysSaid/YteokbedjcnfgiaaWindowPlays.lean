/-
  For every row of calls, the law WindowPlays returns true: a window tells what the reference's window tells. No condition.
-/
import Derived.Test.YteokbedjcnfgiaaWindowRef
import Derived.Test.YteokbedjcnfgiaaMix2
import Derived.Test.YteokbedjcnfgiaaFrame
import Derived.Test.YteokbedjcnfgiaaInit
namespace Go.Proofs.Yteokbedjcnfgiaa
open Go.RowKit Go.ChangeShapes Go.WideShapes Go.ChangeAt

/-- What the loop keeps. -/
structure WPlay (W w : World) (B b rb : Nat) (h : List Int) : Prop where
  m : Win w b h
  r : ∃ v, Blk w rb [v] 29 ∧ Own w B v h
  keeps : Keeps (fun k => W.heap.size ≤ k) W w
  fresh : W.heap.size ≤ b ∧ W.heap.size ≤ rb
  apart : b ≠ rb ∧ b < B ∧ rb < B
  room : B ≤ w.heap.size
  byte : ∀ z ∈ h, 0 ≤ z ∧ z ≤ 255
theorem WPlay.drewN {W w : World} {B b rb : Nat} {h : List Int} (p : WPlay W w B b rb h) (k : Nat) : WPlay W (w.drewN k) B b rb h := ⟨p.m, p.r, p.keeps.drewN k, p.fresh, p.apart, p.room, p.byte⟩
theorem WPlay.later {W w w' : World} {B b rb : Nat} {h : List Int} (p : WPlay W w B b rb h) (hk : Keeps None w w') : WPlay W w' B b rb h := by
  obtain ⟨v, h1, h2⟩ := p.r
  exact ⟨p.m.keeps hk (fun h => h), ⟨v, hk.blk h1 (fun h => h), h2.keeps hk (fun _ _ h => h)⟩, p.keeps.trans hk (fun _ h => h) (fun _ _ h => h.elim), p.fresh, p.apart, Nat.le_trans p.room hk.size, p.byte⟩
theorem WPlay.put {W w w' : World} {B b rb : Nat} {h h' : List Int} (p : WPlay W w B b rb h) (hm : Win w' b h') (hk : Keeps (fun k => k = b) w w') : ∃ v, Blk w' rb [v] 29 ∧ Own w' B v h := by
  obtain ⟨v, h1, h2⟩ := p.r
  obtain ⟨a1, a2, a3⟩ := p.apart
  refine ⟨v, hk.blk h1 (fun e => a1 e.symm), h2.keeps hk (fun x hx e => ?_)⟩
  subst e; exact h2.notBelow a2 hx


set_option maxRecDepth 100000 in
set_option maxHeartbeats 1600000 in
theorem plays18_any (A : Option Addr) (n cap : Nat) (xs : List Value) (W : World) (hs : IsSl W A n cap 5 xs)
    (hf : ∀ i, i < n → ∃ z0 z1 z2 z3 c, xs[i * 5]? = some (.int .i64 z0) ∧ xs[i * 5 + 1]? = some (.int .i64 z1) ∧ xs[i * 5 + 2]? = some (.int .i64 z2) ∧ xs[i * 5 + 3]? = some (.int .u8 z3) ∧ xs[i * 5 + 4]? = some (.bool c) ∧ 0 ≤ z3 ∧ z3 ≤ 255) :
    Calls Try.prog 3 #[.slice A n cap] W fun e w' => e = .returned (.bool true) ∧ Below W.heap.size W w' := by
  obtain ⟨_, hcap, hmax, hcell⟩ := hs
  have HF := Lib.hid hf
  have HC := Lib.hid hcell
  clear hf hcell
  by_cases hbig : 20 < n
  · go_enter Try.func3, Try.ntmps3
    go_wp2_with (go_at_call 13; refine (alive18_any _).mono ?_; rintro e w1 ⟨rfl, hk⟩)
    go_ret
    exact ⟨rfl, hk⟩
  have d1 : decide (20 < (n : Int)) = false := by simp; omega
  go_enter Try.func3, Try.ntmps3
  go_wp2_with (first | (go_at_call 13; refine (alive18_any _).mono ?_; rintro e w1 ⟨rfl, hk⟩) | (go_at_call 14; refine (wnew_any _).mono ?_; rintro e w2 ⟨rfl, hw2, k2⟩))
  have key : WPlay W (w2.alloc (.cells [Value.slice none 0 0].toArray 29)) (w2.heap.size + 1) w1.heap.size w2.heap.size [] := by
    have s1 := hk.size
    have s2 := k2.size
    have l1 := hw2.lt
    have kk : Keeps (fun k => W.heap.size ≤ k) W w2 := (show Keeps None W w1 from ⟨hk.os, hk.tape, hk.output, hk.size, fun i hi _ => hk.block i hi⟩).trans k2 (fun _ h => h.elim) (fun _ _ h => h.elim)
    refine ⟨hw2.keeps ((Keeps.refl None _).alloc _) (fun h => h), ⟨_, Blk.new _ _ _, Own.nil _ _⟩, kk.alloc _, by omega, by omega, by simp, by simp⟩
  generalize w2.alloc (.cells [Value.slice none 0 0].toArray 29) = w3 at *
  have KEY := Lib.hid key
  have e1 : W.heap.size ≤ w1.heap.size := key.fresh.1
  have e2 : W.heap.size ≤ w2.heap.size := key.fresh.2
  clear key hk hw2 k2
  generalize w2.heap.size + 1 = B at *
  generalize w1.heap.size = b at *
  generalize w2.heap.size = rb at *
  have hn : n ≤ 20 := by omega
  go_loopw [6] (fun i wr => ∃ (k : Nat) (h : List Int), k ≤ n ∧ i = .int .i64 k ∧ WPlay W wr B b rb h ∧ h.length ≤ 3000 * k) (fun i _ => n - (intOf i).toNat)
  case atStart => exact ⟨0, [], Nat.zero_le _, rfl, KEY.out, by simp⟩
  case round =>
    obtain ⟨k, h0, hkn, rfl, hP, hl0⟩ := hrel
    clear KEY
    by_cases hlt : k < n
    · obtain ⟨bl, off, rfl, hb, hc⟩ := HC.out (by omega)
      obtain ⟨z0, z1, z2, z3, c, x0, x1, x2, x3, x4, hz⟩ := HF.out k hlt
      have hcw : ∀ w', Keeps (fun k => W.heap.size ≤ k) W w' → w'.cell? ⟨bl, off + k * 5, none⟩ = some (.int .i64 z0) ∧ w'.cell? ⟨bl, off + k * 5 + 1, none⟩ = some (.int .i64 z1) ∧ w'.cell? ⟨bl, off + k * 5 + 2, none⟩ = some (.int .i64 z2) ∧ w'.cell? ⟨bl, off + k * 5 + 3, none⟩ = some (.int .u8 z3) ∧ w'.cell? ⟨bl, off + k * 5 + 4, none⟩ = some (.bool c) := fun w' hk => by
        have hcc : ∀ i, i < n * 5 → w'.cell? ⟨bl, off + i, none⟩ = xs[i]? := fun i hi => (hk.cell (p := ⟨bl, off + i, none⟩) hb (by simp; exact hb)).trans (hc i hi)
        exact ⟨(hcc (k * 5) (by omega)).trans x0, (hcc (k * 5 + 1) (by omega)).trans x1, (hcc (k * 5 + 2) (by omega)).trans x2, (hcc (k * 5 + 3) (by omega)).trans x3, (hcc (k * 5 + 4) (by omega)).trans x4⟩
      have HCW := Lib.hid hcw
      have HZ := Lib.hid hz
      clear x0 x1 x2 x3 x4 hc hcw hz
      obtain ⟨-, -, -, -, c4⟩ := HCW.out wr hP.keeps
      obtain ⟨wv, rfl⟩ : ∃ x, x = wr := ⟨_, rfl⟩
      cases c
      · go_wp2
        have HP0 := Lib.hid hP
        clear hP c4
        go_loopw [7] (fun i wr => ∃ (kk : Nat) (h : List Int), kk ≤ 3000 ∧ i = .int .i64 kk ∧ WPlay W wr B b rb h ∧ h.length ≤ 3000 * k + kk) (fun i _ => 3000 - (intOf i).toNat)
        case atStart => exact ⟨0, h0, Nat.zero_le _, rfl, HP0.out, by simp <;> omega⟩
        case round =>
          obtain ⟨kk, h, hk1, rfl, hP, hl⟩ := hrel
          clear HP0
          obtain ⟨c0, c1, c2, c3, -⟩ := HCW.out wr hP.keeps
          by_cases t1 : (kk : Int) < z0 ∧ kk < 3000
          · have q1 : decide ((kk : Int) < z0) = true := by simp; exact t1.1
            have q2 : decide ((kk : Int) < 3000) = true := by simp; omega
            have hkk := t1.2
            clear t1
            go_wp2_with fail
            refine (wput_any b h _ wr hP.m (by omega)).mono ?_
            rintro e w4 ⟨rfl, hm4, k4⟩
            obtain ⟨v, B4, O4⟩ := hP.put hm4 k4
            have hK4 : Keeps (fun k => W.heap.size ≤ k) W w4 := hP.keeps.trans k4 (fun _ h => h) (fun _ _ h => by subst h; exact e1)
            obtain ⟨-, -, -, d3, -⟩ := HCW.out w4 hK4
            have g1 := B4.cellD 0 _ rfl
            have hzb : 0 ≤ (z3 + bits .and .i64 kk 255) % 256 ∧ (z3 + bits .and .i64 kk 255) % 256 ≤ 255 := by omega
            have ap := hP.apart
            have HB4 := Lib.hid B4
            have HO4 := Lib.hid O4
            have HK4 := Lib.hid hK4
            have HM4 := Lib.hid hm4
            have HAP := Lib.hid hP.fresh
            have hsz : B ≤ w4.heap.size := Nat.le_trans hP.room k4.size
            have HBY := Lib.hid hP.byte
            clear B4 O4 hK4 hm4 c0 c1 c2 c3 k4 hP
            go_wp2
            obtain ⟨mS, mh⟩ : ∃ S : World → Prop, ∀ w', S w' ↔ (w'.cell? ⟨rb, 0, none⟩ = some (v) ∧ w'.cell? ⟨bl, off + k * 5 + 3, none⟩ = some (.int .u8 z3)) := ⟨_, fun _ => Iff.rfl⟩
            have mk0 : ∀ x : Memb mS, x.at_.cell? ⟨rb, 0, none⟩ = some (v) := fun x => ((mh _).1 x.is).1
            have mk1 : ∀ x : Memb mS, x.at_.cell? ⟨bl, off + k * 5 + 3, none⟩ = some (.int .u8 z3) := fun x => ((mh _).1 x.is).2
            have mn : Nonempty (Memb mS) := ⟨⟨(w4).drew, (mh _).2 ⟨g1, d3⟩⟩⟩
            have mH := Lib.hid mh
            clear mh
            refine wp_region_mix [14, 15, 18] (InS mS) (by kernel_rfl) (by kernel_rfl) (InS.mk ((mH.out _).2 ⟨g1, d3⟩)) ?_
            refine wpMix_seg 14 (by kernel_rfl) (by decide) ?_
            simp only [List.take_succ_cons, List.take_zero, List.drop_succ_cons, List.drop_zero]
            repeat (go_big_quiet_step (fail))
            refine wpQuiet_nil ?_
            refine wpMix_eff (by kernel_rfl) ?_
            go_wp2
            refine MixK.on (InS.mk ((mH.out _).2 (⟨(HB4.out.alloc _).drew.cellD 0 _ rfl, (HCW.out _ (HK4.out.alloc _).drew).2.2.2.1⟩))) ?_
            refine wpMix_eff (by kernel_rfl) ?_
            go_wp2_with (at_builtin; refine wpList_append_bs (HO4.out.alloc _).drew (Bs.oneAt _ _ rfl _ hzb).drew (by omega) (by simp; omega) rfl rfl rfl rfl rfl ?_; intro v' w5 ho5 hk5; obtain ⟨A5, cap5, rfl, -, -⟩ := ho5.shape; simp only [List.length_append, List.length_singleton] at ho5)
            have HO5 := Lib.hid ho5
            have HK5 := Lib.hid hk5
            have B5 := hk5.blk ((HB4.out.alloc _).drew) (HO4.out.notBelow ap.2.2)
            have g5 := B5.cellD 0 _ rfl
            have f5 := B5.frozen 0
            have HB5 := Lib.hid B5
            have HKK := Lib.hid (((HK4.out.alloc _).drew).trans hk5 (fun _ h => h) (fun i _ e => by by_cases hi : i < B; exact absurd e (HO4.out.notBelow hi); show W.heap.size ≤ i; omega))
            clear ho5 hk5 B5
            refine MixK.on (InS.mk ((mH.out _).2 (⟨g5, (HCW.out _ HKK.out).2.2.2.1⟩))) ?_
            refine wpMix_seg 2 (by kernel_rfl) (by decide) ?_
            simp only [List.take_succ_cons, List.take_zero, List.drop_succ_cons, List.drop_zero]
            repeat (go_big_quiet_step (fail))
            refine wpQuiet_nil ?_
            refine wpMix_eff (by kernel_rfl) ?_
            go_wp2
            refine MixK.last (by kernel_rfl) ?_
            refine wpMix_nil ?_
            clear mk0 mk1 mn mH
            go_wp2
            go_roundw
            case rel =>
              refine ⟨kk + 1, h ++ [(z3 + bits .and .i64 kk 255) % 256], by omega, by go_num, ?_, by simp; omega⟩
              have hne : ∀ i, i < B → ¬ v.ownBlock = some i := fun i hi => HO4.out.notBelow hi
              have ks : Keeps (fun i => i = rb) w5 (w5.setCell ⟨rb, 0, none⟩ (.slice A5 (h.length + 1) cap5)) := (Keeps.refl _ _).setCell _ _ (fun _ => rfl)
              have m5 : Win w5 b (h ++ [(z3 + bits .and .i64 kk 255) % 256]) := (HM4.out.keeps (((Keeps.refl None _).alloc _).drew) (fun h => h)).keeps HK5.out (hne b ap.2.1)
              refine ⟨m5.keeps ks ap.1, ⟨_, HB5.out.set 0 _, HO5.out.keeps ks (fun x hx e => ?_)⟩, HKK.out.setCell _ _ (fun _ => HAP.out.2), HAP.out, ap, by have := HK5.out.size; simp at this ⊢; omega, fun z hz => ?_⟩
              · subst e
                exact HO5.out.notBelow ap.2.2 hx
              · rcases List.mem_append.1 hz with hz | hz
                · exact HBY.out z hz
                · rw [List.mem_singleton.1 hz]; exact hzb
            case measure => simp [intOf]; omega
          · by_cases t2 : (kk : Int) < z0
            · have q1 : decide ((kk : Int) < z0) = true := by simp; exact t2
              have q2 : decide ((kk : Int) < 3000) = false := by simp; omega
              clear t1 t2
              have hll : h.length ≤ 63000 := by omega
              go_wp2_with fail
              refine (wback_any b h z1 _ hP.m (by omega)).mono ?_
              rintro e w4 ⟨rfl, nq, rfl⟩
              clear c0 c3
              obtain ⟨v, B0, O0⟩ := hP.r
              obtain ⟨A2, cap2, rfl, bs2, -⟩ := O0.shape
              have HR := Lib.hid (rwback_any rb A2 h.length cap2 h z1 (wr.drewN nq) ((B0.drewN nq).cellD 0 _ rfl) (bs2.drewN nq))
              have HP := Lib.hid hP
              clear hP B0 O0 bs2
              generalize backV h z1 = bv at *
              generalize backOk h z1 = bo at *
              go_wp2_with (go_at_call 18; refine HR.out.mono ?_; rintro e w5 ⟨rfl, m, rfl⟩)
              have HP6 := Lib.hid (HP.out.drewN (nq + m))
              clear HP HR c1 c2
              generalize wr.drewN (nq + m) = w6 at *
              obtain ⟨-, -, c2, -, -⟩ := HCW.out w6 HP6.out.keeps
              obtain ⟨v, B0, O0⟩ := HP6.out.r
              obtain ⟨A2, cap2, rfl, bs2, -⟩ := O0.shape
              have g1 := B0.cellD 0 _ rfl
              have HB0 := Lib.hid B0
              have HBS := Lib.hid bs2
              have LEN := Lib.hid (wlen_any b h w6.drew HP6.out.m.drew)
              have hrb := B0.lt
              clear B0 O0 bs2
              obtain ⟨mS, mh⟩ : ∃ S : World → Prop, ∀ w', S w' ↔ (w'.cell? ⟨rb, 0, none⟩ = some (.slice A2 h.length cap2) ∧ w'.cell? ⟨bl, off + k * 5 + 2, none⟩ = some (.int .i64 z2)) := ⟨_, fun _ => Iff.rfl⟩
              have mk0 : ∀ x : Memb mS, x.at_.cell? ⟨rb, 0, none⟩ = some (.slice A2 h.length cap2) := fun x => ((mh _).1 x.is).1
              have mk1 : ∀ x : Memb mS, x.at_.cell? ⟨bl, off + k * 5 + 2, none⟩ = some (.int .i64 z2) := fun x => ((mh _).1 x.is).2
              have mn : Nonempty (Memb mS) := ⟨⟨(w6).drew, (mh _).2 ⟨g1, c2⟩⟩⟩
              have mH := Lib.hid mh
              clear mh
              refine wp_region_mix2 [10, 25, 33] (InS mS) (by kernel_rfl) (by kernel_rfl) (InS.mk ((mH.out _).2 ⟨g1, c2⟩)) ?_
              refine wpMix2_seg 10 (InS mS) (by kernel_rfl) (by decide) (cl_base [] rfl (by kernel_rfl)) ?_
              simp only [List.take_succ_cons, List.take_zero, List.drop_succ_cons, List.drop_zero]
              repeat (go_big_quiet_step (fail))
              refine wpQuiet_nil ?_
              refine wpMix2_eff (by kernel_rfl) ?_
              go_wp2_with fail
              refine LEN.out.mono ?_
              rintro e w' ⟨rfl, rfl⟩
              go_wp2
              refine MixK2.on (cls_base (InS.mk ((mH.out _).2 ⟨g1, c2⟩))) ?_
              refine wpMix2_seg 14 (InS mS) (by kernel_rfl) (by decide) (cl_base [] rfl (by kernel_rfl)) ?_
              simp only [List.take_succ_cons, List.take_zero, List.drop_succ_cons, List.drop_zero]
              repeat (go_big_quiet_step (fail))
              refine wpQuiet_nil ?_
              refine wpMix2_eff (by kernel_rfl) ?_
              go_wp2_with fail
              refine (wlast_any b h z2 _ HP6.out.m.drew (by omega) HP6.out.byte).mono ?_
              rintro e w7 ⟨v7, rfl, o7, k7⟩
              obtain ⟨A7, cap7, rfl, bs7, -⟩ := o7.shape
              have BS7 := Lib.hid bs7
              have P7 := Lib.hid (HP6.out.later ((Keeps.refl None _).drew.trans k7 (fun _ h => h) (fun _ _ h => h)))
              have G7 := Lib.hid (k7.blk HB0.out.drew (fun h => h))
              have T7 := Lib.hid (HBS.out.drew.keeps k7 (fun _ _ _ _ _ h => h))
              clear o7 bs7 k7
              go_wp2
              obtain ⟨mL26S, mL26h⟩ : ∃ S : World → Prop, ∀ w', S w' ↔ (((convert 27 9 (.slice A7 (lastN h z2).length cap7)).run Try.prog w' = .ok (.string (strOf (lastN h z2))) w')) := ⟨_, fun _ => Iff.rfl⟩
              have mL26k0 : ∀ x : Memb mL26S, (convert 27 9 (.slice A7 (lastN h z2).length cap7)).run Try.prog x.at_ = .ok (.string (strOf (lastN h z2))) x.at_ := fun x => ((mL26h _).1 x.is)
              have mL26n : Nonempty (Memb mL26S) := ⟨⟨_, (mL26h _).2 (run_str BS7.out)⟩⟩
              have mL26H := Lib.hid mL26h
              clear mL26h
              refine MixK2.late (D := InS mL26S) (x := 26) (by kernel_rfl) (cls_cons (InS.mk ((mL26H.out _).2 (run_str BS7.out))) (cls_base (InS.mk ((mH.out _).2 (⟨G7.out.cellD 0 _ rfl, (HCW.out _ P7.out.keeps).2.2.1⟩))))) ?_
              refine wpMix2_seg 1 (InS mL26S) (by kernel_rfl) (by decide) (cl_one rfl) ?_
              simp only [List.take_succ_cons, List.take_zero, List.drop_succ_cons, List.drop_zero]
              repeat (first | go_big_quiet_step (fail) | (go_big_quiet_want; first | refine quiet_conv mL26k0 rfl rfl rfl (by simp only [Act.put, List.setIfInBounds_toArray, List.set_cons_succ, List.set_cons_zero]; rfl) ?_; go_big_quiet_on))
              refine wpQuiet_nil ?_
              refine wpMix2_seg 6 (InS mS) (by kernel_rfl) (by decide) (cl_base [26] rfl (by kernel_rfl)) ?_
              simp only [List.take_succ_cons, List.take_zero, List.drop_succ_cons, List.drop_zero]
              repeat (first | go_big_quiet_step (fail) | (go_big_quiet_want; first | refine quiet_conv mL26k0 rfl rfl rfl (by simp only [Act.put, List.setIfInBounds_toArray, List.set_cons_succ, List.set_cons_zero]; rfl) ?_; go_big_quiet_on))
              refine wpQuiet_nil ?_
              refine wpMix2_eff (by kernel_rfl) ?_
              go_wp2_with fail
              refine (rwlast_any rb A2 h.length cap2 h z2 _ (G7.out.cellD 0 _ rfl) T7.out (by omega) G7.out.lt).mono ?_
              rintro e w8 ⟨v8, rfl, o8, k8⟩
              obtain ⟨A8, cap8, rfl, bs8, -⟩ := o8.shape
              have BS8 := Lib.hid bs8
              have BS7' := Lib.hid (BS7.out.keeps k8 (fun _ _ _ _ _ h => h))
              have P8 := Lib.hid (P7.out.later k8)
              have G8 := Lib.hid (k8.blk G7.out (fun h => h))
              clear o8 bs8 k8
              go_wp2
              obtain ⟨mL34S, mL34h⟩ : ∃ S : World → Prop, ∀ w', S w' ↔ (((convert 27 9 (.slice A8 (lastN h z2).length cap8)).run Try.prog w' = .ok (.string (strOf (lastN h z2))) w')) := ⟨_, fun _ => Iff.rfl⟩
              have mL34k0 : ∀ x : Memb mL34S, (convert 27 9 (.slice A8 (lastN h z2).length cap8)).run Try.prog x.at_ = .ok (.string (strOf (lastN h z2))) x.at_ := fun x => ((mL34h _).1 x.is)
              have mL34n : Nonempty (Memb mL34S) := ⟨⟨_, (mL34h _).2 (run_str BS8.out)⟩⟩
              have mL34H := Lib.hid mL34h
              clear mL34h
              refine MixK2.late (D := InS mL34S) (x := 34) (by kernel_rfl) (cls_cons (InS.mk ((mL34H.out _).2 (run_str BS8.out))) (cls_cons (InS.mk ((mL26H.out _).2 (run_str BS7'.out))) (cls_base (InS.mk ((mH.out _).2 (⟨G8.out.cellD 0 _ rfl, (HCW.out _ P8.out.keeps).2.2.1⟩)))))) ?_
              refine wpMix2_seg 1 (InS mL34S) (by kernel_rfl) (by decide) (cl_one rfl) ?_
              simp only [List.take_succ_cons, List.take_zero, List.drop_succ_cons, List.drop_zero]
              repeat (first | go_big_quiet_step (fail) | (go_big_quiet_want; first | refine quiet_conv mL26k0 rfl rfl rfl (by simp only [Act.put, List.setIfInBounds_toArray, List.set_cons_succ, List.set_cons_zero]; rfl) ?_; go_big_quiet_on | refine quiet_conv mL34k0 rfl rfl rfl (by simp only [Act.put, List.setIfInBounds_toArray, List.set_cons_succ, List.set_cons_zero]; rfl) ?_; go_big_quiet_on))
              refine wpQuiet_nil ?_
              refine wpMix2_seg 2 (InS mS) (by kernel_rfl) (by decide) (cl_base [34, 26] rfl (by kernel_rfl)) ?_
              simp only [List.take_succ_cons, List.take_zero, List.drop_succ_cons, List.drop_zero]
              repeat (first | go_big_quiet_step (fail) | (go_big_quiet_want; first | refine quiet_conv mL26k0 rfl rfl rfl (by simp only [Act.put, List.setIfInBounds_toArray, List.set_cons_succ, List.set_cons_zero]; rfl) ?_; go_big_quiet_on | refine quiet_conv mL34k0 rfl rfl rfl (by simp only [Act.put, List.setIfInBounds_toArray, List.set_cons_succ, List.set_cons_zero]; rfl) ?_; go_big_quiet_on))
              refine wpQuiet_nil ?_
              refine wpMix2_nil ?_
              clear mk0 mk1 mn mH mL26k0 mL26n mL26H mL34k0 mL34n mL34H
              clear LEN BS7 BS8 BS7' T7 HBS g1 c2
              go_wp2
              go_roundw
              case rel => exact ⟨k + 1, h, by omega, by go_num, P8.out, by omega⟩
              case measure => simp [intOf]; omega
            · have q1 : decide ((kk : Int) < z0) = false := by simp; omega
              clear t1 t2
              have hll : h.length ≤ 63000 := by omega
              go_wp2_with fail
              refine (wback_any b h z1 _ hP.m (by omega)).mono ?_
              rintro e w4 ⟨rfl, nq, rfl⟩
              clear c0 c3
              obtain ⟨v, B0, O0⟩ := hP.r
              obtain ⟨A2, cap2, rfl, bs2, -⟩ := O0.shape
              have HR := Lib.hid (rwback_any rb A2 h.length cap2 h z1 (wr.drewN nq) ((B0.drewN nq).cellD 0 _ rfl) (bs2.drewN nq))
              have HP := Lib.hid hP
              clear hP B0 O0 bs2
              generalize backV h z1 = bv at *
              generalize backOk h z1 = bo at *
              go_wp2_with (go_at_call 18; refine HR.out.mono ?_; rintro e w5 ⟨rfl, m, rfl⟩)
              have HP6 := Lib.hid (HP.out.drewN (nq + m))
              clear HP HR c1 c2
              generalize wr.drewN (nq + m) = w6 at *
              obtain ⟨-, -, c2, -, -⟩ := HCW.out w6 HP6.out.keeps
              obtain ⟨v, B0, O0⟩ := HP6.out.r
              obtain ⟨A2, cap2, rfl, bs2, -⟩ := O0.shape
              have g1 := B0.cellD 0 _ rfl
              have HB0 := Lib.hid B0
              have HBS := Lib.hid bs2
              have LEN := Lib.hid (wlen_any b h w6.drew HP6.out.m.drew)
              have hrb := B0.lt
              clear B0 O0 bs2
              obtain ⟨mS, mh⟩ : ∃ S : World → Prop, ∀ w', S w' ↔ (w'.cell? ⟨rb, 0, none⟩ = some (.slice A2 h.length cap2) ∧ w'.cell? ⟨bl, off + k * 5 + 2, none⟩ = some (.int .i64 z2)) := ⟨_, fun _ => Iff.rfl⟩
              have mk0 : ∀ x : Memb mS, x.at_.cell? ⟨rb, 0, none⟩ = some (.slice A2 h.length cap2) := fun x => ((mh _).1 x.is).1
              have mk1 : ∀ x : Memb mS, x.at_.cell? ⟨bl, off + k * 5 + 2, none⟩ = some (.int .i64 z2) := fun x => ((mh _).1 x.is).2
              have mn : Nonempty (Memb mS) := ⟨⟨(w6).drew, (mh _).2 ⟨g1, c2⟩⟩⟩
              have mH := Lib.hid mh
              clear mh
              refine wp_region_mix2 [10, 25, 33] (InS mS) (by kernel_rfl) (by kernel_rfl) (InS.mk ((mH.out _).2 ⟨g1, c2⟩)) ?_
              refine wpMix2_seg 10 (InS mS) (by kernel_rfl) (by decide) (cl_base [] rfl (by kernel_rfl)) ?_
              simp only [List.take_succ_cons, List.take_zero, List.drop_succ_cons, List.drop_zero]
              repeat (go_big_quiet_step (fail))
              refine wpQuiet_nil ?_
              refine wpMix2_eff (by kernel_rfl) ?_
              go_wp2_with fail
              refine LEN.out.mono ?_
              rintro e w' ⟨rfl, rfl⟩
              go_wp2
              refine MixK2.on (cls_base (InS.mk ((mH.out _).2 ⟨g1, c2⟩))) ?_
              refine wpMix2_seg 14 (InS mS) (by kernel_rfl) (by decide) (cl_base [] rfl (by kernel_rfl)) ?_
              simp only [List.take_succ_cons, List.take_zero, List.drop_succ_cons, List.drop_zero]
              repeat (go_big_quiet_step (fail))
              refine wpQuiet_nil ?_
              refine wpMix2_eff (by kernel_rfl) ?_
              go_wp2_with fail
              refine (wlast_any b h z2 _ HP6.out.m.drew (by omega) HP6.out.byte).mono ?_
              rintro e w7 ⟨v7, rfl, o7, k7⟩
              obtain ⟨A7, cap7, rfl, bs7, -⟩ := o7.shape
              have BS7 := Lib.hid bs7
              have P7 := Lib.hid (HP6.out.later ((Keeps.refl None _).drew.trans k7 (fun _ h => h) (fun _ _ h => h)))
              have G7 := Lib.hid (k7.blk HB0.out.drew (fun h => h))
              have T7 := Lib.hid (HBS.out.drew.keeps k7 (fun _ _ _ _ _ h => h))
              clear o7 bs7 k7
              go_wp2
              obtain ⟨mL26S, mL26h⟩ : ∃ S : World → Prop, ∀ w', S w' ↔ (((convert 27 9 (.slice A7 (lastN h z2).length cap7)).run Try.prog w' = .ok (.string (strOf (lastN h z2))) w')) := ⟨_, fun _ => Iff.rfl⟩
              have mL26k0 : ∀ x : Memb mL26S, (convert 27 9 (.slice A7 (lastN h z2).length cap7)).run Try.prog x.at_ = .ok (.string (strOf (lastN h z2))) x.at_ := fun x => ((mL26h _).1 x.is)
              have mL26n : Nonempty (Memb mL26S) := ⟨⟨_, (mL26h _).2 (run_str BS7.out)⟩⟩
              have mL26H := Lib.hid mL26h
              clear mL26h
              refine MixK2.late (D := InS mL26S) (x := 26) (by kernel_rfl) (cls_cons (InS.mk ((mL26H.out _).2 (run_str BS7.out))) (cls_base (InS.mk ((mH.out _).2 (⟨G7.out.cellD 0 _ rfl, (HCW.out _ P7.out.keeps).2.2.1⟩))))) ?_
              refine wpMix2_seg 1 (InS mL26S) (by kernel_rfl) (by decide) (cl_one rfl) ?_
              simp only [List.take_succ_cons, List.take_zero, List.drop_succ_cons, List.drop_zero]
              repeat (first | go_big_quiet_step (fail) | (go_big_quiet_want; first | refine quiet_conv mL26k0 rfl rfl rfl (by simp only [Act.put, List.setIfInBounds_toArray, List.set_cons_succ, List.set_cons_zero]; rfl) ?_; go_big_quiet_on))
              refine wpQuiet_nil ?_
              refine wpMix2_seg 6 (InS mS) (by kernel_rfl) (by decide) (cl_base [26] rfl (by kernel_rfl)) ?_
              simp only [List.take_succ_cons, List.take_zero, List.drop_succ_cons, List.drop_zero]
              repeat (first | go_big_quiet_step (fail) | (go_big_quiet_want; first | refine quiet_conv mL26k0 rfl rfl rfl (by simp only [Act.put, List.setIfInBounds_toArray, List.set_cons_succ, List.set_cons_zero]; rfl) ?_; go_big_quiet_on))
              refine wpQuiet_nil ?_
              refine wpMix2_eff (by kernel_rfl) ?_
              go_wp2_with fail
              refine (rwlast_any rb A2 h.length cap2 h z2 _ (G7.out.cellD 0 _ rfl) T7.out (by omega) G7.out.lt).mono ?_
              rintro e w8 ⟨v8, rfl, o8, k8⟩
              obtain ⟨A8, cap8, rfl, bs8, -⟩ := o8.shape
              have BS8 := Lib.hid bs8
              have BS7' := Lib.hid (BS7.out.keeps k8 (fun _ _ _ _ _ h => h))
              have P8 := Lib.hid (P7.out.later k8)
              have G8 := Lib.hid (k8.blk G7.out (fun h => h))
              clear o8 bs8 k8
              go_wp2
              obtain ⟨mL34S, mL34h⟩ : ∃ S : World → Prop, ∀ w', S w' ↔ (((convert 27 9 (.slice A8 (lastN h z2).length cap8)).run Try.prog w' = .ok (.string (strOf (lastN h z2))) w')) := ⟨_, fun _ => Iff.rfl⟩
              have mL34k0 : ∀ x : Memb mL34S, (convert 27 9 (.slice A8 (lastN h z2).length cap8)).run Try.prog x.at_ = .ok (.string (strOf (lastN h z2))) x.at_ := fun x => ((mL34h _).1 x.is)
              have mL34n : Nonempty (Memb mL34S) := ⟨⟨_, (mL34h _).2 (run_str BS8.out)⟩⟩
              have mL34H := Lib.hid mL34h
              clear mL34h
              refine MixK2.late (D := InS mL34S) (x := 34) (by kernel_rfl) (cls_cons (InS.mk ((mL34H.out _).2 (run_str BS8.out))) (cls_cons (InS.mk ((mL26H.out _).2 (run_str BS7'.out))) (cls_base (InS.mk ((mH.out _).2 (⟨G8.out.cellD 0 _ rfl, (HCW.out _ P8.out.keeps).2.2.1⟩)))))) ?_
              refine wpMix2_seg 1 (InS mL34S) (by kernel_rfl) (by decide) (cl_one rfl) ?_
              simp only [List.take_succ_cons, List.take_zero, List.drop_succ_cons, List.drop_zero]
              repeat (first | go_big_quiet_step (fail) | (go_big_quiet_want; first | refine quiet_conv mL26k0 rfl rfl rfl (by simp only [Act.put, List.setIfInBounds_toArray, List.set_cons_succ, List.set_cons_zero]; rfl) ?_; go_big_quiet_on | refine quiet_conv mL34k0 rfl rfl rfl (by simp only [Act.put, List.setIfInBounds_toArray, List.set_cons_succ, List.set_cons_zero]; rfl) ?_; go_big_quiet_on))
              refine wpQuiet_nil ?_
              refine wpMix2_seg 2 (InS mS) (by kernel_rfl) (by decide) (cl_base [34, 26] rfl (by kernel_rfl)) ?_
              simp only [List.take_succ_cons, List.take_zero, List.drop_succ_cons, List.drop_zero]
              repeat (first | go_big_quiet_step (fail) | (go_big_quiet_want; first | refine quiet_conv mL26k0 rfl rfl rfl (by simp only [Act.put, List.setIfInBounds_toArray, List.set_cons_succ, List.set_cons_zero]; rfl) ?_; go_big_quiet_on | refine quiet_conv mL34k0 rfl rfl rfl (by simp only [Act.put, List.setIfInBounds_toArray, List.set_cons_succ, List.set_cons_zero]; rfl) ?_; go_big_quiet_on))
              refine wpQuiet_nil ?_
              refine wpMix2_nil ?_
              clear mk0 mk1 mn mH mL26k0 mL26n mL26H mL34k0 mL34n mL34H
              clear LEN BS7 BS8 BS7' T7 HBS g1 c2
              go_wp2
              go_roundw
              case rel => exact ⟨k + 1, h, by omega, by go_num, P8.out, by omega⟩
              case measure => simp [intOf]; omega
      · have HCL := Lib.hid (wclear_any b h0 wv hP.m)
        go_wp2_with fail
        refine HCL.out.mono ?_
        rintro e w4 ⟨rfl, hm4, k4⟩
        obtain ⟨v4, B4, O4⟩ := hP.put hm4 k4
        have g1 := B4.cellD 0 _ rfl
        have g2 := B4.frozen 0
        have hP4 : WPlay W (w4.setCell ⟨rb, 0, none⟩ (.slice none 0 0)) B b rb [] :=
          ⟨hm4.keeps ((Keeps.refl (fun i => i = rb) w4).setCell _ _ (fun _ => rfl)) hP.apart.1, ⟨_, B4.set 0 _, Own.nil _ _⟩, (hP.keeps.trans k4 (fun _ h => h) (fun _ _ h => by subst h; exact e1)).setCell _ _ (fun _ => e2), hP.fresh, hP.apart, by have := hP.room; have := k4.size; simp; omega, by simp⟩
        have HP0 := Lib.hid hP4
        clear hP hP4 hm4 k4 B4 O4 HCL c4
        go_wp2
        generalize w4.setCell ⟨rb, 0, none⟩ (.slice none 0 0) = w5 at *
        clear g1 g2
        go_loopw [7] (fun i wr => ∃ (kk : Nat) (h : List Int), kk ≤ 3000 ∧ i = .int .i64 kk ∧ WPlay W wr B b rb h ∧ h.length ≤ 3000 * k + kk) (fun i _ => 3000 - (intOf i).toNat)
        case atStart => exact ⟨0, [], Nat.zero_le _, rfl, HP0.out, by simp <;> omega⟩
        case round =>
          obtain ⟨kk, h, hk1, rfl, hP, hl⟩ := hrel
          clear HP0
          obtain ⟨c0, c1, c2, c3, -⟩ := HCW.out wr hP.keeps
          by_cases t1 : (kk : Int) < z0 ∧ kk < 3000
          · have q1 : decide ((kk : Int) < z0) = true := by simp; exact t1.1
            have q2 : decide ((kk : Int) < 3000) = true := by simp; omega
            have hkk := t1.2
            clear t1
            go_wp2_with fail
            refine (wput_any b h _ wr hP.m (by omega)).mono ?_
            rintro e w4 ⟨rfl, hm4, k4⟩
            obtain ⟨v, B4, O4⟩ := hP.put hm4 k4
            have hK4 : Keeps (fun k => W.heap.size ≤ k) W w4 := hP.keeps.trans k4 (fun _ h => h) (fun _ _ h => by subst h; exact e1)
            obtain ⟨-, -, -, d3, -⟩ := HCW.out w4 hK4
            have g1 := B4.cellD 0 _ rfl
            have hzb : 0 ≤ (z3 + bits .and .i64 kk 255) % 256 ∧ (z3 + bits .and .i64 kk 255) % 256 ≤ 255 := by omega
            have ap := hP.apart
            have HB4 := Lib.hid B4
            have HO4 := Lib.hid O4
            have HK4 := Lib.hid hK4
            have HM4 := Lib.hid hm4
            have HAP := Lib.hid hP.fresh
            have hsz : B ≤ w4.heap.size := Nat.le_trans hP.room k4.size
            have HBY := Lib.hid hP.byte
            clear B4 O4 hK4 hm4 c0 c1 c2 c3 k4 hP
            go_wp2
            obtain ⟨mS, mh⟩ : ∃ S : World → Prop, ∀ w', S w' ↔ (w'.cell? ⟨rb, 0, none⟩ = some (v) ∧ w'.cell? ⟨bl, off + k * 5 + 3, none⟩ = some (.int .u8 z3)) := ⟨_, fun _ => Iff.rfl⟩
            have mk0 : ∀ x : Memb mS, x.at_.cell? ⟨rb, 0, none⟩ = some (v) := fun x => ((mh _).1 x.is).1
            have mk1 : ∀ x : Memb mS, x.at_.cell? ⟨bl, off + k * 5 + 3, none⟩ = some (.int .u8 z3) := fun x => ((mh _).1 x.is).2
            have mn : Nonempty (Memb mS) := ⟨⟨(w4).drew, (mh _).2 ⟨g1, d3⟩⟩⟩
            have mH := Lib.hid mh
            clear mh
            refine wp_region_mix [14, 15, 18] (InS mS) (by kernel_rfl) (by kernel_rfl) (InS.mk ((mH.out _).2 ⟨g1, d3⟩)) ?_
            refine wpMix_seg 14 (by kernel_rfl) (by decide) ?_
            simp only [List.take_succ_cons, List.take_zero, List.drop_succ_cons, List.drop_zero]
            repeat (go_big_quiet_step (fail))
            refine wpQuiet_nil ?_
            refine wpMix_eff (by kernel_rfl) ?_
            go_wp2
            refine MixK.on (InS.mk ((mH.out _).2 (⟨(HB4.out.alloc _).drew.cellD 0 _ rfl, (HCW.out _ (HK4.out.alloc _).drew).2.2.2.1⟩))) ?_
            refine wpMix_eff (by kernel_rfl) ?_
            go_wp2_with (at_builtin; refine wpList_append_bs (HO4.out.alloc _).drew (Bs.oneAt _ _ rfl _ hzb).drew (by omega) (by simp; omega) rfl rfl rfl rfl rfl ?_; intro v' w5 ho5 hk5; obtain ⟨A5, cap5, rfl, -, -⟩ := ho5.shape; simp only [List.length_append, List.length_singleton] at ho5)
            have HO5 := Lib.hid ho5
            have HK5 := Lib.hid hk5
            have B5 := hk5.blk ((HB4.out.alloc _).drew) (HO4.out.notBelow ap.2.2)
            have g5 := B5.cellD 0 _ rfl
            have f5 := B5.frozen 0
            have HB5 := Lib.hid B5
            have HKK := Lib.hid (((HK4.out.alloc _).drew).trans hk5 (fun _ h => h) (fun i _ e => by by_cases hi : i < B; exact absurd e (HO4.out.notBelow hi); show W.heap.size ≤ i; omega))
            clear ho5 hk5 B5
            refine MixK.on (InS.mk ((mH.out _).2 (⟨g5, (HCW.out _ HKK.out).2.2.2.1⟩))) ?_
            refine wpMix_seg 2 (by kernel_rfl) (by decide) ?_
            simp only [List.take_succ_cons, List.take_zero, List.drop_succ_cons, List.drop_zero]
            repeat (go_big_quiet_step (fail))
            refine wpQuiet_nil ?_
            refine wpMix_eff (by kernel_rfl) ?_
            go_wp2
            refine MixK.last (by kernel_rfl) ?_
            refine wpMix_nil ?_
            clear mk0 mk1 mn mH
            go_wp2
            go_roundw
            case rel =>
              refine ⟨kk + 1, h ++ [(z3 + bits .and .i64 kk 255) % 256], by omega, by go_num, ?_, by simp; omega⟩
              have hne : ∀ i, i < B → ¬ v.ownBlock = some i := fun i hi => HO4.out.notBelow hi
              have ks : Keeps (fun i => i = rb) w5 (w5.setCell ⟨rb, 0, none⟩ (.slice A5 (h.length + 1) cap5)) := (Keeps.refl _ _).setCell _ _ (fun _ => rfl)
              have m5 : Win w5 b (h ++ [(z3 + bits .and .i64 kk 255) % 256]) := (HM4.out.keeps (((Keeps.refl None _).alloc _).drew) (fun h => h)).keeps HK5.out (hne b ap.2.1)
              refine ⟨m5.keeps ks ap.1, ⟨_, HB5.out.set 0 _, HO5.out.keeps ks (fun x hx e => ?_)⟩, HKK.out.setCell _ _ (fun _ => HAP.out.2), HAP.out, ap, by have := HK5.out.size; simp at this ⊢; omega, fun z hz => ?_⟩
              · subst e
                exact HO5.out.notBelow ap.2.2 hx
              · rcases List.mem_append.1 hz with hz | hz
                · exact HBY.out z hz
                · rw [List.mem_singleton.1 hz]; exact hzb
            case measure => simp [intOf]; omega
          · by_cases t2 : (kk : Int) < z0
            · have q1 : decide ((kk : Int) < z0) = true := by simp; exact t2
              have q2 : decide ((kk : Int) < 3000) = false := by simp; omega
              clear t1 t2
              have hll : h.length ≤ 63000 := by omega
              go_wp2_with fail
              refine (wback_any b h z1 _ hP.m (by omega)).mono ?_
              rintro e w4 ⟨rfl, nq, rfl⟩
              clear c0 c3
              obtain ⟨v, B0, O0⟩ := hP.r
              obtain ⟨A2, cap2, rfl, bs2, -⟩ := O0.shape
              have HR := Lib.hid (rwback_any rb A2 h.length cap2 h z1 (wr.drewN nq) ((B0.drewN nq).cellD 0 _ rfl) (bs2.drewN nq))
              have HP := Lib.hid hP
              clear hP B0 O0 bs2
              generalize backV h z1 = bv at *
              generalize backOk h z1 = bo at *
              go_wp2_with (go_at_call 18; refine HR.out.mono ?_; rintro e w5 ⟨rfl, m, rfl⟩)
              have HP6 := Lib.hid (HP.out.drewN (nq + m))
              clear HP HR c1 c2
              generalize wr.drewN (nq + m) = w6 at *
              obtain ⟨-, -, c2, -, -⟩ := HCW.out w6 HP6.out.keeps
              obtain ⟨v, B0, O0⟩ := HP6.out.r
              obtain ⟨A2, cap2, rfl, bs2, -⟩ := O0.shape
              have g1 := B0.cellD 0 _ rfl
              have HB0 := Lib.hid B0
              have HBS := Lib.hid bs2
              have LEN := Lib.hid (wlen_any b h w6.drew HP6.out.m.drew)
              have hrb := B0.lt
              clear B0 O0 bs2
              obtain ⟨mS, mh⟩ : ∃ S : World → Prop, ∀ w', S w' ↔ (w'.cell? ⟨rb, 0, none⟩ = some (.slice A2 h.length cap2) ∧ w'.cell? ⟨bl, off + k * 5 + 2, none⟩ = some (.int .i64 z2)) := ⟨_, fun _ => Iff.rfl⟩
              have mk0 : ∀ x : Memb mS, x.at_.cell? ⟨rb, 0, none⟩ = some (.slice A2 h.length cap2) := fun x => ((mh _).1 x.is).1
              have mk1 : ∀ x : Memb mS, x.at_.cell? ⟨bl, off + k * 5 + 2, none⟩ = some (.int .i64 z2) := fun x => ((mh _).1 x.is).2
              have mn : Nonempty (Memb mS) := ⟨⟨(w6).drew, (mh _).2 ⟨g1, c2⟩⟩⟩
              have mH := Lib.hid mh
              clear mh
              refine wp_region_mix2 [10, 25, 33] (InS mS) (by kernel_rfl) (by kernel_rfl) (InS.mk ((mH.out _).2 ⟨g1, c2⟩)) ?_
              refine wpMix2_seg 10 (InS mS) (by kernel_rfl) (by decide) (cl_base [] rfl (by kernel_rfl)) ?_
              simp only [List.take_succ_cons, List.take_zero, List.drop_succ_cons, List.drop_zero]
              repeat (go_big_quiet_step (fail))
              refine wpQuiet_nil ?_
              refine wpMix2_eff (by kernel_rfl) ?_
              go_wp2_with fail
              refine LEN.out.mono ?_
              rintro e w' ⟨rfl, rfl⟩
              go_wp2
              refine MixK2.on (cls_base (InS.mk ((mH.out _).2 ⟨g1, c2⟩))) ?_
              refine wpMix2_seg 14 (InS mS) (by kernel_rfl) (by decide) (cl_base [] rfl (by kernel_rfl)) ?_
              simp only [List.take_succ_cons, List.take_zero, List.drop_succ_cons, List.drop_zero]
              repeat (go_big_quiet_step (fail))
              refine wpQuiet_nil ?_
              refine wpMix2_eff (by kernel_rfl) ?_
              go_wp2_with fail
              refine (wlast_any b h z2 _ HP6.out.m.drew (by omega) HP6.out.byte).mono ?_
              rintro e w7 ⟨v7, rfl, o7, k7⟩
              obtain ⟨A7, cap7, rfl, bs7, -⟩ := o7.shape
              have BS7 := Lib.hid bs7
              have P7 := Lib.hid (HP6.out.later ((Keeps.refl None _).drew.trans k7 (fun _ h => h) (fun _ _ h => h)))
              have G7 := Lib.hid (k7.blk HB0.out.drew (fun h => h))
              have T7 := Lib.hid (HBS.out.drew.keeps k7 (fun _ _ _ _ _ h => h))
              clear o7 bs7 k7
              go_wp2
              obtain ⟨mL26S, mL26h⟩ : ∃ S : World → Prop, ∀ w', S w' ↔ (((convert 27 9 (.slice A7 (lastN h z2).length cap7)).run Try.prog w' = .ok (.string (strOf (lastN h z2))) w')) := ⟨_, fun _ => Iff.rfl⟩
              have mL26k0 : ∀ x : Memb mL26S, (convert 27 9 (.slice A7 (lastN h z2).length cap7)).run Try.prog x.at_ = .ok (.string (strOf (lastN h z2))) x.at_ := fun x => ((mL26h _).1 x.is)
              have mL26n : Nonempty (Memb mL26S) := ⟨⟨_, (mL26h _).2 (run_str BS7.out)⟩⟩
              have mL26H := Lib.hid mL26h
              clear mL26h
              refine MixK2.late (D := InS mL26S) (x := 26) (by kernel_rfl) (cls_cons (InS.mk ((mL26H.out _).2 (run_str BS7.out))) (cls_base (InS.mk ((mH.out _).2 (⟨G7.out.cellD 0 _ rfl, (HCW.out _ P7.out.keeps).2.2.1⟩))))) ?_
              refine wpMix2_seg 1 (InS mL26S) (by kernel_rfl) (by decide) (cl_one rfl) ?_
              simp only [List.take_succ_cons, List.take_zero, List.drop_succ_cons, List.drop_zero]
              repeat (first | go_big_quiet_step (fail) | (go_big_quiet_want; first | refine quiet_conv mL26k0 rfl rfl rfl (by simp only [Act.put, List.setIfInBounds_toArray, List.set_cons_succ, List.set_cons_zero]; rfl) ?_; go_big_quiet_on))
              refine wpQuiet_nil ?_
              refine wpMix2_seg 6 (InS mS) (by kernel_rfl) (by decide) (cl_base [26] rfl (by kernel_rfl)) ?_
              simp only [List.take_succ_cons, List.take_zero, List.drop_succ_cons, List.drop_zero]
              repeat (first | go_big_quiet_step (fail) | (go_big_quiet_want; first | refine quiet_conv mL26k0 rfl rfl rfl (by simp only [Act.put, List.setIfInBounds_toArray, List.set_cons_succ, List.set_cons_zero]; rfl) ?_; go_big_quiet_on))
              refine wpQuiet_nil ?_
              refine wpMix2_eff (by kernel_rfl) ?_
              go_wp2_with fail
              refine (rwlast_any rb A2 h.length cap2 h z2 _ (G7.out.cellD 0 _ rfl) T7.out (by omega) G7.out.lt).mono ?_
              rintro e w8 ⟨v8, rfl, o8, k8⟩
              obtain ⟨A8, cap8, rfl, bs8, -⟩ := o8.shape
              have BS8 := Lib.hid bs8
              have BS7' := Lib.hid (BS7.out.keeps k8 (fun _ _ _ _ _ h => h))
              have P8 := Lib.hid (P7.out.later k8)
              have G8 := Lib.hid (k8.blk G7.out (fun h => h))
              clear o8 bs8 k8
              go_wp2
              obtain ⟨mL34S, mL34h⟩ : ∃ S : World → Prop, ∀ w', S w' ↔ (((convert 27 9 (.slice A8 (lastN h z2).length cap8)).run Try.prog w' = .ok (.string (strOf (lastN h z2))) w')) := ⟨_, fun _ => Iff.rfl⟩
              have mL34k0 : ∀ x : Memb mL34S, (convert 27 9 (.slice A8 (lastN h z2).length cap8)).run Try.prog x.at_ = .ok (.string (strOf (lastN h z2))) x.at_ := fun x => ((mL34h _).1 x.is)
              have mL34n : Nonempty (Memb mL34S) := ⟨⟨_, (mL34h _).2 (run_str BS8.out)⟩⟩
              have mL34H := Lib.hid mL34h
              clear mL34h
              refine MixK2.late (D := InS mL34S) (x := 34) (by kernel_rfl) (cls_cons (InS.mk ((mL34H.out _).2 (run_str BS8.out))) (cls_cons (InS.mk ((mL26H.out _).2 (run_str BS7'.out))) (cls_base (InS.mk ((mH.out _).2 (⟨G8.out.cellD 0 _ rfl, (HCW.out _ P8.out.keeps).2.2.1⟩)))))) ?_
              refine wpMix2_seg 1 (InS mL34S) (by kernel_rfl) (by decide) (cl_one rfl) ?_
              simp only [List.take_succ_cons, List.take_zero, List.drop_succ_cons, List.drop_zero]
              repeat (first | go_big_quiet_step (fail) | (go_big_quiet_want; first | refine quiet_conv mL26k0 rfl rfl rfl (by simp only [Act.put, List.setIfInBounds_toArray, List.set_cons_succ, List.set_cons_zero]; rfl) ?_; go_big_quiet_on | refine quiet_conv mL34k0 rfl rfl rfl (by simp only [Act.put, List.setIfInBounds_toArray, List.set_cons_succ, List.set_cons_zero]; rfl) ?_; go_big_quiet_on))
              refine wpQuiet_nil ?_
              refine wpMix2_seg 2 (InS mS) (by kernel_rfl) (by decide) (cl_base [34, 26] rfl (by kernel_rfl)) ?_
              simp only [List.take_succ_cons, List.take_zero, List.drop_succ_cons, List.drop_zero]
              repeat (first | go_big_quiet_step (fail) | (go_big_quiet_want; first | refine quiet_conv mL26k0 rfl rfl rfl (by simp only [Act.put, List.setIfInBounds_toArray, List.set_cons_succ, List.set_cons_zero]; rfl) ?_; go_big_quiet_on | refine quiet_conv mL34k0 rfl rfl rfl (by simp only [Act.put, List.setIfInBounds_toArray, List.set_cons_succ, List.set_cons_zero]; rfl) ?_; go_big_quiet_on))
              refine wpQuiet_nil ?_
              refine wpMix2_nil ?_
              clear mk0 mk1 mn mH mL26k0 mL26n mL26H mL34k0 mL34n mL34H
              clear LEN BS7 BS8 BS7' T7 HBS g1 c2
              go_wp2
              go_roundw
              case rel => exact ⟨k + 1, h, by omega, by go_num, P8.out, by omega⟩
              case measure => simp [intOf]; omega
            · have q1 : decide ((kk : Int) < z0) = false := by simp; omega
              clear t1 t2
              have hll : h.length ≤ 63000 := by omega
              go_wp2_with fail
              refine (wback_any b h z1 _ hP.m (by omega)).mono ?_
              rintro e w4 ⟨rfl, nq, rfl⟩
              clear c0 c3
              obtain ⟨v, B0, O0⟩ := hP.r
              obtain ⟨A2, cap2, rfl, bs2, -⟩ := O0.shape
              have HR := Lib.hid (rwback_any rb A2 h.length cap2 h z1 (wr.drewN nq) ((B0.drewN nq).cellD 0 _ rfl) (bs2.drewN nq))
              have HP := Lib.hid hP
              clear hP B0 O0 bs2
              generalize backV h z1 = bv at *
              generalize backOk h z1 = bo at *
              go_wp2_with (go_at_call 18; refine HR.out.mono ?_; rintro e w5 ⟨rfl, m, rfl⟩)
              have HP6 := Lib.hid (HP.out.drewN (nq + m))
              clear HP HR c1 c2
              generalize wr.drewN (nq + m) = w6 at *
              obtain ⟨-, -, c2, -, -⟩ := HCW.out w6 HP6.out.keeps
              obtain ⟨v, B0, O0⟩ := HP6.out.r
              obtain ⟨A2, cap2, rfl, bs2, -⟩ := O0.shape
              have g1 := B0.cellD 0 _ rfl
              have HB0 := Lib.hid B0
              have HBS := Lib.hid bs2
              have LEN := Lib.hid (wlen_any b h w6.drew HP6.out.m.drew)
              have hrb := B0.lt
              clear B0 O0 bs2
              obtain ⟨mS, mh⟩ : ∃ S : World → Prop, ∀ w', S w' ↔ (w'.cell? ⟨rb, 0, none⟩ = some (.slice A2 h.length cap2) ∧ w'.cell? ⟨bl, off + k * 5 + 2, none⟩ = some (.int .i64 z2)) := ⟨_, fun _ => Iff.rfl⟩
              have mk0 : ∀ x : Memb mS, x.at_.cell? ⟨rb, 0, none⟩ = some (.slice A2 h.length cap2) := fun x => ((mh _).1 x.is).1
              have mk1 : ∀ x : Memb mS, x.at_.cell? ⟨bl, off + k * 5 + 2, none⟩ = some (.int .i64 z2) := fun x => ((mh _).1 x.is).2
              have mn : Nonempty (Memb mS) := ⟨⟨(w6).drew, (mh _).2 ⟨g1, c2⟩⟩⟩
              have mH := Lib.hid mh
              clear mh
              refine wp_region_mix2 [10, 25, 33] (InS mS) (by kernel_rfl) (by kernel_rfl) (InS.mk ((mH.out _).2 ⟨g1, c2⟩)) ?_
              refine wpMix2_seg 10 (InS mS) (by kernel_rfl) (by decide) (cl_base [] rfl (by kernel_rfl)) ?_
              simp only [List.take_succ_cons, List.take_zero, List.drop_succ_cons, List.drop_zero]
              repeat (go_big_quiet_step (fail))
              refine wpQuiet_nil ?_
              refine wpMix2_eff (by kernel_rfl) ?_
              go_wp2_with fail
              refine LEN.out.mono ?_
              rintro e w' ⟨rfl, rfl⟩
              go_wp2
              refine MixK2.on (cls_base (InS.mk ((mH.out _).2 ⟨g1, c2⟩))) ?_
              refine wpMix2_seg 14 (InS mS) (by kernel_rfl) (by decide) (cl_base [] rfl (by kernel_rfl)) ?_
              simp only [List.take_succ_cons, List.take_zero, List.drop_succ_cons, List.drop_zero]
              repeat (go_big_quiet_step (fail))
              refine wpQuiet_nil ?_
              refine wpMix2_eff (by kernel_rfl) ?_
              go_wp2_with fail
              refine (wlast_any b h z2 _ HP6.out.m.drew (by omega) HP6.out.byte).mono ?_
              rintro e w7 ⟨v7, rfl, o7, k7⟩
              obtain ⟨A7, cap7, rfl, bs7, -⟩ := o7.shape
              have BS7 := Lib.hid bs7
              have P7 := Lib.hid (HP6.out.later ((Keeps.refl None _).drew.trans k7 (fun _ h => h) (fun _ _ h => h)))
              have G7 := Lib.hid (k7.blk HB0.out.drew (fun h => h))
              have T7 := Lib.hid (HBS.out.drew.keeps k7 (fun _ _ _ _ _ h => h))
              clear o7 bs7 k7
              go_wp2
              obtain ⟨mL26S, mL26h⟩ : ∃ S : World → Prop, ∀ w', S w' ↔ (((convert 27 9 (.slice A7 (lastN h z2).length cap7)).run Try.prog w' = .ok (.string (strOf (lastN h z2))) w')) := ⟨_, fun _ => Iff.rfl⟩
              have mL26k0 : ∀ x : Memb mL26S, (convert 27 9 (.slice A7 (lastN h z2).length cap7)).run Try.prog x.at_ = .ok (.string (strOf (lastN h z2))) x.at_ := fun x => ((mL26h _).1 x.is)
              have mL26n : Nonempty (Memb mL26S) := ⟨⟨_, (mL26h _).2 (run_str BS7.out)⟩⟩
              have mL26H := Lib.hid mL26h
              clear mL26h
              refine MixK2.late (D := InS mL26S) (x := 26) (by kernel_rfl) (cls_cons (InS.mk ((mL26H.out _).2 (run_str BS7.out))) (cls_base (InS.mk ((mH.out _).2 (⟨G7.out.cellD 0 _ rfl, (HCW.out _ P7.out.keeps).2.2.1⟩))))) ?_
              refine wpMix2_seg 1 (InS mL26S) (by kernel_rfl) (by decide) (cl_one rfl) ?_
              simp only [List.take_succ_cons, List.take_zero, List.drop_succ_cons, List.drop_zero]
              repeat (first | go_big_quiet_step (fail) | (go_big_quiet_want; first | refine quiet_conv mL26k0 rfl rfl rfl (by simp only [Act.put, List.setIfInBounds_toArray, List.set_cons_succ, List.set_cons_zero]; rfl) ?_; go_big_quiet_on))
              refine wpQuiet_nil ?_
              refine wpMix2_seg 6 (InS mS) (by kernel_rfl) (by decide) (cl_base [26] rfl (by kernel_rfl)) ?_
              simp only [List.take_succ_cons, List.take_zero, List.drop_succ_cons, List.drop_zero]
              repeat (first | go_big_quiet_step (fail) | (go_big_quiet_want; first | refine quiet_conv mL26k0 rfl rfl rfl (by simp only [Act.put, List.setIfInBounds_toArray, List.set_cons_succ, List.set_cons_zero]; rfl) ?_; go_big_quiet_on))
              refine wpQuiet_nil ?_
              refine wpMix2_eff (by kernel_rfl) ?_
              go_wp2_with fail
              refine (rwlast_any rb A2 h.length cap2 h z2 _ (G7.out.cellD 0 _ rfl) T7.out (by omega) G7.out.lt).mono ?_
              rintro e w8 ⟨v8, rfl, o8, k8⟩
              obtain ⟨A8, cap8, rfl, bs8, -⟩ := o8.shape
              have BS8 := Lib.hid bs8
              have BS7' := Lib.hid (BS7.out.keeps k8 (fun _ _ _ _ _ h => h))
              have P8 := Lib.hid (P7.out.later k8)
              have G8 := Lib.hid (k8.blk G7.out (fun h => h))
              clear o8 bs8 k8
              go_wp2
              obtain ⟨mL34S, mL34h⟩ : ∃ S : World → Prop, ∀ w', S w' ↔ (((convert 27 9 (.slice A8 (lastN h z2).length cap8)).run Try.prog w' = .ok (.string (strOf (lastN h z2))) w')) := ⟨_, fun _ => Iff.rfl⟩
              have mL34k0 : ∀ x : Memb mL34S, (convert 27 9 (.slice A8 (lastN h z2).length cap8)).run Try.prog x.at_ = .ok (.string (strOf (lastN h z2))) x.at_ := fun x => ((mL34h _).1 x.is)
              have mL34n : Nonempty (Memb mL34S) := ⟨⟨_, (mL34h _).2 (run_str BS8.out)⟩⟩
              have mL34H := Lib.hid mL34h
              clear mL34h
              refine MixK2.late (D := InS mL34S) (x := 34) (by kernel_rfl) (cls_cons (InS.mk ((mL34H.out _).2 (run_str BS8.out))) (cls_cons (InS.mk ((mL26H.out _).2 (run_str BS7'.out))) (cls_base (InS.mk ((mH.out _).2 (⟨G8.out.cellD 0 _ rfl, (HCW.out _ P8.out.keeps).2.2.1⟩)))))) ?_
              refine wpMix2_seg 1 (InS mL34S) (by kernel_rfl) (by decide) (cl_one rfl) ?_
              simp only [List.take_succ_cons, List.take_zero, List.drop_succ_cons, List.drop_zero]
              repeat (first | go_big_quiet_step (fail) | (go_big_quiet_want; first | refine quiet_conv mL26k0 rfl rfl rfl (by simp only [Act.put, List.setIfInBounds_toArray, List.set_cons_succ, List.set_cons_zero]; rfl) ?_; go_big_quiet_on | refine quiet_conv mL34k0 rfl rfl rfl (by simp only [Act.put, List.setIfInBounds_toArray, List.set_cons_succ, List.set_cons_zero]; rfl) ?_; go_big_quiet_on))
              refine wpQuiet_nil ?_
              refine wpMix2_seg 2 (InS mS) (by kernel_rfl) (by decide) (cl_base [34, 26] rfl (by kernel_rfl)) ?_
              simp only [List.take_succ_cons, List.take_zero, List.drop_succ_cons, List.drop_zero]
              repeat (first | go_big_quiet_step (fail) | (go_big_quiet_want; first | refine quiet_conv mL26k0 rfl rfl rfl (by simp only [Act.put, List.setIfInBounds_toArray, List.set_cons_succ, List.set_cons_zero]; rfl) ?_; go_big_quiet_on | refine quiet_conv mL34k0 rfl rfl rfl (by simp only [Act.put, List.setIfInBounds_toArray, List.set_cons_succ, List.set_cons_zero]; rfl) ?_; go_big_quiet_on))
              refine wpQuiet_nil ?_
              refine wpMix2_nil ?_
              clear mk0 mk1 mn mH mL26k0 mL26n mL26H mL34k0 mL34n mL34H
              clear LEN BS7 BS8 BS7' T7 HBS g1 c2
              go_wp2
              go_roundw
              case rel => exact ⟨k + 1, h, by omega, by go_num, P8.out, by omega⟩
              case measure => simp [intOf]; omega
    · have fin : Below W.heap.size W wr := hP.keeps.below fun k hk h => by omega
      clear hP
      go_wp2
      go_ret
      exact ⟨rfl, fin⟩

set_option maxRecDepth 100000 in
theorem WindowPlays_lifted (os : Os) (started : os.Started) (H : Type) (enc : TypeId × Value → H) :
    ReturnsInHanded {} Try.checked os 3 .any (Rows.windowPlaysSpec.pre6 enc Try.prog Try.f3 Rows.windowPlaysRow.domain false) (Rows.windowPlaysSpec.post enc Try.prog Try.f3 false true false false) := by
  refine returnsInHanded_of_change (C := Try.checked) Try.own started (by kernel_rfl) Try.func3
    (ChangeSpec.witness6 (enc := enc) (C := Try.checked) false ⟨#[], #[.slice none 0 0], []⟩ 8 (by kernel_rfl) (by kernel_rfl) (by kernel_rfl) (by kernel_rfl)) ?_
  intro W base args ds gs before hval0 hW hcnd _
  have hval : ∀ (j : Nat) t v, Try.f3.params[j]? = some t → args[j]? = some v → Value.okWide Try.prog W .any base t v := hval0
  have hW' := hW
  obtain ⟨p, q, hA0, hV, rfl, hfz, hnd⟩ := hW
  have hA : DataW.TrodAll enc Try.prog W 0 (fun _ => true) true Try.f3.params.toList args.toList ds p := hA0
  rw [Try.params3] at hA hval
  obtain ⟨v0, vs0, d0, ds0, p0, q0, hargs, rfl, rfl, h0, r0⟩ := trodAll_cons hA
  obtain ⟨rfl, rfl, rfl⟩ := trodAll_nil r0
  obtain rfl : args = #[v0] := by cases args; simp_all
  obtain ⟨rfl, rfl⟩ := trodVars_none hV
  have k0 := h0
  have lt0 : ∀ x ∈ p0, x.block < W.heap.size := by obtain ⟨m, hm⟩ := k0; exact DataW.trod_lt m _ _ _ hm
  obtain ⟨a0, len0, cap0, rfl⟩ := okWide_slice Try.underlying22 (hval 0 22 v0 rfl rfl)
  obtain ⟨z0, s0, f0⟩ := open_structs' Try.underlying22 Try.underlying31 (by kernel_rfl) (by kernel_rfl) (by decide) h0
  clear hA0 hval0
  refine (plays18_any a0 len0 cap0 z0 W s0 (fun i hi => by obtain ⟨y0, e0, _⟩ := fld_int f0 (j := 0) rfl Try.underlying3 hi; obtain ⟨y1, e1, _⟩ := fld_int f0 (j := 1) rfl Try.underlying3 hi; obtain ⟨y2, e2, _⟩ := fld_int f0 (j := 2) rfl Try.underlying3 hi; obtain ⟨y3, e3, w3⟩ := fld_int f0 (j := 3) rfl Try.underlying5 hi; obtain ⟨c, e4⟩ := fld_bool f0 (j := 4) rfl Try.underlying4 hi; exact ⟨y0, y1, y2, y3, c, e0, e1, e2, e3, e4, (wf_u8_bd w3).1, (wf_u8_bd w3).2⟩)).mono fun e W' ⟨he, bel⟩ => ?_
  subst he
  exact ⟨_, rfl, _, _, _, [], _, [], hW', trodAll_mk1 (shut_bool Try.underlying4 _), (trodAll_cons_mk (Below.trod Try.laidOut (by kernel_rfl) (of_decide_eq_true (by kernel_rfl)) k0 bel lt0) trodAll_mk0), rfl, bel.frame _, fun h => by cases h⟩

set_option maxRecDepth 100000 in
theorem WindowPlays_closed : joinedFacts Try.checked.prog 3 Try.f3 Rows.windowPlaysSpec Rows.windowPlaysRow = true := by
  unfold joinedFacts
  rw [closed_laid, closed_maps, closed_heard, closed_plain, closed_mayEnter, closed_lifts, closed_make]
  kernel_rfl

theorem WindowPlays_holds : Rows.WindowPlaysSaid :=
  OpenClaim.holds_of_wide 3 Try.f3 rfl rfl rfl rfl rfl rfl rfl ⟨rfl, rfl, rfl, rfl, rfl⟩ rfl rfl rfl rfl rfl (by kernel_rfl) Try.func3 WindowPlays_closed
    (of_decide_eq_true (by kernel_rfl)) (by unfold Func.isWrapper; first | (rw [if_pos (by decide +kernel)]; kernel_rfl) | (rw [if_neg (by decide +kernel)]; exact ⟨rfl, rfl⟩))
    (fun os started H enc _ => WindowPlays_lifted os started H enc)
#print axioms WindowPlays_holds
end Go.Proofs.Yteokbedjcnfgiaa
