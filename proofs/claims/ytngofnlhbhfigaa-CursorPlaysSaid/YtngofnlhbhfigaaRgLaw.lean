/- Regions in a law's walk; the law's num and alive. -/
import Derived.Test.YtngofnlhbhfigaaRg2
namespace Go.Proofs.Ytngofnlhbhfigaa
open Go.RowKit

section
variable {W w : World} {B q : Nat} {L : FL} {s : FS} {first count : Nat}
theorem lgprogram (h : LF W w B q L s) (hf : first + count ≤ 256) {A : Option Addr} {m c : Nat} {zs : List Int} (hb : Lb w L A m c zs) (a : Int) (hst : 0 ≤ s.steps ∧ s.steps + m ≤ 1000000000000) :
    Calls Try.prog 23 #[.agg #[.pointer (some ⟨q, 0, none⟩), .int .i64 first, .int .i64 count], .int .i64 a, .slice A m c] w (LTurn W w B q L (s.gprog first count a zs)) :=
  (gprogram_any B L s q first count a A m c zs w h.at_ h.q hf hb.bs hst hb.apS).mono fun e w' ⟨h1, L', t⟩ => ⟨h1, L', h.turn t, t⟩
theorem lgerase (h : LF W w B q L s) (hf : first + count ≤ 256) (k : Int) (hst : 0 ≤ s.steps ∧ s.steps ≤ 1000000000000) (her : ∀ i, 0 ≤ s.er.getD i 0 ∧ s.er.getD i 0 ≤ 1000000000000) :
    Calls Try.prog 44 #[.agg #[.pointer (some ⟨q, 0, none⟩), .int .i64 first, .int .i64 count], .int .i64 k] w (LTurn W w B q L (s.gerase first count k)) :=
  (gerase_any B L s q first count k w h.at_ h.q hf hst her).mono fun e w' ⟨h1, L', t⟩ => ⟨h1, L', h.turn t, t⟩
theorem lgof (h : LF W w B q L s) (a m : Int) : Calls Try.prog 19 #[.pointer (some ⟨q, 0, none⟩), .int .i64 a, .int .i64 m] w (Pure (ofF (some ⟨q, 0, none⟩) a m s.er.length 0) w) := by
  have := gof_any B L s q a m w h.at_ h.q
  rwa [← h.at_.el] at this
theorem lgread (h : LF W w B q L s) (hf : first + count ≤ 256) (a m : Int) : Calls Try.prog 45 #[.agg #[.pointer (some ⟨q, 0, none⟩), .int .i64 first, .int .i64 count], .int .i64 a, .int .i64 m] w (ReadTold w (s.gread first count a m)) := gread_any B L s q first count a m w h.at_ h.q hf
theorem lgblank (h : LF W w B q L s) (hf : first + count ≤ s.er.length) (k : Int) : Calls Try.prog 46 #[.agg #[.pointer (some ⟨q, 0, none⟩), .int .i64 first, .int .i64 count], .int .i64 k] w (Pure (.tuple #[.bool (s.gblank first count k).1, .int .i64 (s.gblank first count k).2]) w) :=
  gisblank_any B L s q first count k w h.at_ h.q (by rw [← h.at_.el]; exact hf)
end
theorem ofF_yes {p : Option Addr} {a m n b : Int} (h : someB a m n = true) : ofF p a m n b = .tuple #[.agg #[.pointer p, .int .i64 (b + a), .int .i64 m], .int .i64 0] := if_pos h
theorem ofF_no {p : Option Addr} {a m n b : Int} (h : someB a m n = false) : ofF p a m n b = .tuple #[rg0, .int .i64 1] := by unfold ofF; rw [h]; rfl

set_option maxRecDepth 100000 in
theorem num3_any (x : Int) (w : World) : Calls Try.prog 21 #[.int .i64 x] w (Same (.int .i64 x) w) := by
  go_enter Try.func21, Try.ntmps21
  go_wp2
  go_ret
  exact ⟨rfl, rfl⟩
theorem alive3_plain : ∃ s1 : FS, (newF 5).gprog 2 3 0 z8 = (s1, 0) ∧ s1.peekF 2048 8 = z8 ∧ (newF 5).steps = 0 ∧ (newF 5).er.length = 5 := by
  have hn : newF 5 = { b := List.replicate 5120 255, er := [0, 0, 0, 0, 0], steps := 0, left := -1, pick := [], dark := false } := rfl
  rw [hn]
  have hg : ({ b := List.replicate 5120 255, er := [0, 0, 0, 0, 0], steps := 0, left := -1, pick := [], dark := false } : FS).gprog 2 3 0 z8 = ({ b := List.replicate 5120 255, er := [0, 0, 0, 0, 0], steps := 0, left := -1, pick := [], dark := false } : FS).progF ((2048 : Nat) : Int) z8 := by
    unfold FS.gprog
    rw [if_neg (by show ¬ false = true; decide), if_pos (by decide)]
    rfl
  have hp := prog_free (s := { b := List.replicate 5120 255, er := [0, 0, 0, 0, 0], steps := 0, left := -1, pick := [], dark := false }) rfl (show (-1 : Int) < 0 by decide) (a := 2048) (K := 1) (zs := z8) rfl rfl (by show 2048 + 8 ≤ (List.replicate 5120 (255 : Int)).length; rw [List.length_replicate]; decide) (blank_can 5120 8 (by decide) z8 z8_byte rfl 2048 (by decide))
  refine ⟨_, by rw [hg, hp], ?_, rfl, rfl⟩
  unfold FS.peekF
  have hl : (splice (List.replicate 5120 255) 2048 z8).length = 5120 := by rw [splice_len _ _ _ (by rw [List.length_replicate]; decide), List.length_replicate]
  show (if withinB 2048 8 ((splice (List.replicate 5120 255) 2048 z8).length : Nat) = true then _ else _) = _
  rw [hl, if_pos (by decide)]
  exact splice_mid (List.replicate 5120 255) z8 2048 (by rw [List.length_replicate]; decide)

set_option maxRecDepth 100000 in
set_option maxHeartbeats 800000 in
theorem alive3_any (W : World) : Calls Try.prog 17 #[] W fun e w' => e = .returned (.bool true) ∧ Keeps None W w' := by
  obtain ⟨N, hN⟩ : ∃ N : Nat, N = 8 := ⟨_, rfl⟩
  have hmk := fun w => run_make_blk (P := Try.prog) 22 5 (.int .u8 0) 1 Try.underlying22 Try.info5 rfl .i64 .i64 8 8 N (by omega) (by omega) (by omega) (by omega) w
  have ZB := Lib.hid (fun w => madeBs w N (by omega))
  have hz : List.replicate N (0 : Int) = z8 := by subst hN; rfl
  rw [hz] at ZB
  obtain ⟨s1, p1, p2, p3, p4⟩ := alive3_plain
  have N2 := Lib.hid num3_any
  have NW := Lib.hid (lnew (Keeps.refl None W) 5)
  have P1 := Lib.hid p1
  have P2 := Lib.hid p2
  have P3 := Lib.hid p3
  have P4 := Lib.hid p4
  have HN := Lib.hid hN
  obtain ⟨sz, hsz⟩ : ∃ s, strOf z8 = s := ⟨_, rfl⟩
  have HSZ := Lib.hid hsz
  have qz : (sz.toList == sz.toList) = true := by simp
  generalize newF 5 = f0 at *
  clear p1 p2 p3 p4 hN hz hsz
  go_enter Try.func17, Try.ntmps17
  go_wp2_with fail
  refine NW.out.mono ?_
  rintro e w1 ⟨q, L, rfl, hF⟩
  have HF := Lib.hid hF
  clear hF NW
  go_wp2_with fail
  refine (lgof HF.out 2 3).mono ?_
  rw [P4.out]
  rintro e w2 ⟨rfl, k2⟩
  rw [ofF_yes (show someB 2 3 ((5 : Nat) : Int) = true from rfl)]
  have H2 := Lib.hid (HF.out.later k2)
  clear k2 HF
  obtain ⟨rb, hrb⟩ : ∃ x, w2.heap.size = x := ⟨_, rfl⟩
  have R3 := Lib.hid (Blk.new w2 [.pointer (some ⟨q, 0, none⟩), .int .i64 2, .int .i64 3] 27)
  have H3 := Lib.hid (H2.out.alloc (.cells #[.pointer (some ⟨q, 0, none⟩), .int .i64 2, .int .i64 3] 27))
  go_wp2
  rw [hrb] at R3
  obtain ⟨w3, hw3⟩ : ∃ x, w2.alloc (.cells #[.pointer (some ⟨q, 0, none⟩), .int .i64 2, .int .i64 3] 27) = x := ⟨_, rfl⟩
  rw [hw3] at R3 H3 ⊢
  have NB : Hid (¬ L.O rb) := fun hO => by have := H2.out.at_.lt _ hO; omega
  clear hw3 hrb H2
  obtain ⟨mS, mh⟩ : ∃ S : World → Prop, ∀ w', S w' ↔ (w'.cell? ⟨rb, 0, none⟩ = some (.pointer (some ⟨q, 0, none⟩)) ∧ w'.cell? ⟨rb, 1, none⟩ = some (.int .i64 2) ∧ w'.cell? ⟨rb, 2, none⟩ = some (.int .i64 3)) := ⟨_, fun _ => Iff.rfl⟩
  have mk0 : ∀ x : Memb mS, x.at_.cell? ⟨rb, 0, none⟩ = some (.pointer (some ⟨q, 0, none⟩)) := fun x => ((mh _).1 x.is).1
  have mk1 : ∀ x : Memb mS, x.at_.cell? ⟨rb, 1, none⟩ = some (.int .i64 2) := fun x => ((mh _).1 x.is).2.1
  have mk2 : ∀ x : Memb mS, x.at_.cell? ⟨rb, 2, none⟩ = some (.int .i64 3) := fun x => ((mh _).1 x.is).2.2
  have mn : Nonempty (Memb mS) := ⟨⟨(w3).drew, (mh _).2 ⟨R3.out.cellD 0 _ rfl, R3.out.cellD 1 _ rfl, R3.out.cellD 2 _ rfl⟩⟩⟩
  have mH := Lib.hid mh
  clear mh
  refine wp_region_mix [1, 2] (InS mS) (by kernel_rfl) (by kernel_rfl) (InS.mk ((mH.out _).2 ⟨R3.out.cellD 0 _ rfl, R3.out.cellD 1 _ rfl, R3.out.cellD 2 _ rfl⟩)) ?_
  refine wpMix_seg 1 (by kernel_rfl) (by decide) ?_
  simp only [List.take_succ_cons, List.take_zero, List.drop_succ_cons, List.drop_zero]
  repeat (go_big_quiet_step (fail))
  refine wpQuiet_nil ?_
  refine wpMix_eff (by kernel_rfl) ?_
  go_wp2
  have R4 := Lib.hid (R3.out.drew.alloc (.cells (Array.replicate N (.int .u8 0)) 5))
  have H4 := Lib.hid (H3.out.drew.alloc (.cells (Array.replicate N (.int .u8 0)) 5))
  refine MixK.on (InS.mk ((mH.out _).2 (⟨R4.out.cellD 0 _ rfl, R4.out.cellD 1 _ rfl, R4.out.cellD 2 _ rfl⟩))) ?_
  refine wpMix_eff (by kernel_rfl) ?_
  go_wp2_with fail
  refine (lgprogram (first := 2) (count := 3) H4.out (by decide) (Lb.new H3.out.drew.at_ (ZB.out w3.drew)) 0 (by rw [P3.out]; have := HN.out; omega)).mono ?_
  rintro e w5 ⟨rfl, L5, h5, t5⟩
  rw [P1.out] at h5 t5 ⊢
  have R5 := Lib.hid (t5.keeps.blk R4.out NB.out)
  have H5 := Lib.hid h5
  simp only [] at H5
  clear h5 t5
  go_wp2
  refine MixK.on (InS.mk ((mH.out _).2 (⟨R5.out.cellD 0 _ rfl, R5.out.cellD 1 _ rfl, R5.out.cellD 2 _ rfl⟩))) ?_
  refine wpMix_seg 1 (by kernel_rfl) (by decide) ?_
  simp only [List.take_succ_cons, List.take_zero, List.drop_succ_cons, List.drop_zero]
  repeat (go_big_quiet_step (fail))
  refine wpQuiet_nil ?_
  refine wpMix_nil ?_
  clear mk0 mk1 mk2 mn mH
  clear R4 H4 R3 H3
  go_wp2_with fail
  refine (lpeek H5.out 2048 8).mono ?_
  rw [P2.out]
  rintro e w6 ⟨v6, rfl, o6, k6⟩
  obtain ⟨A6, c6, rfl, bs6⟩ := slice_of_own o6
  have Q6 := Lib.hid bs6
  have R6 := Lib.hid (k6.blk R5.out (fun h => h))
  have H6 := Lib.hid (H5.out.later k6)
  clear o6 k6 bs6 R5 H5
  have CV := Lib.hid (fun w' (hk : Keeps None w6 w') => show (convert 22 9 (.slice A6 z8.length c6)).run Try.prog w' = .ok (.string sz) w' from HSZ.out ▸ run_str (Q6.out.keeps hk (fun _ _ _ _ _ h => h)))
  go_wp2
  obtain ⟨mS, mh⟩ : ∃ S : World → Prop, ∀ w', S w' ↔ (w'.cell? ⟨rb, 0, none⟩ = some (.pointer (some ⟨q, 0, none⟩)) ∧ w'.cell? ⟨rb, 1, none⟩ = some (.int .i64 2) ∧ w'.cell? ⟨rb, 2, none⟩ = some (.int .i64 3) ∧ ((convert 22 9 (.slice A6 z8.length c6)).run Try.prog w' = .ok (.string sz) w')) := ⟨_, fun _ => Iff.rfl⟩
  have mk0 : ∀ x : Memb mS, x.at_.cell? ⟨rb, 0, none⟩ = some (.pointer (some ⟨q, 0, none⟩)) := fun x => ((mh _).1 x.is).1
  have mk1 : ∀ x : Memb mS, x.at_.cell? ⟨rb, 1, none⟩ = some (.int .i64 2) := fun x => ((mh _).1 x.is).2.1
  have mk2 : ∀ x : Memb mS, x.at_.cell? ⟨rb, 2, none⟩ = some (.int .i64 3) := fun x => ((mh _).1 x.is).2.2.1
  have mk3 : ∀ x : Memb mS, (convert 22 9 (.slice A6 z8.length c6)).run Try.prog x.at_ = .ok (.string sz) x.at_ := fun x => ((mh _).1 x.is).2.2.2
  have mn : Nonempty (Memb mS) := ⟨⟨(w6).drew, (mh _).2 ⟨R6.out.cellD 0 _ rfl, R6.out.cellD 1 _ rfl, R6.out.cellD 2 _ rfl, CV.out _ (Keeps.refl None w6).drew⟩⟩⟩
  have mH := Lib.hid mh
  clear mh
  refine wp_region_mix [1, 5, 10, 16, 17] (InS mS) (by kernel_rfl) (by kernel_rfl) (InS.mk ((mH.out _).2 ⟨R6.out.cellD 0 _ rfl, R6.out.cellD 1 _ rfl, R6.out.cellD 2 _ rfl, CV.out _ (Keeps.refl None w6).drew⟩)) ?_
  refine wpMix_seg 1 (by kernel_rfl) (by decide) ?_
  simp only [List.take_succ_cons, List.take_zero, List.drop_succ_cons, List.drop_zero]
  repeat (first | go_big_quiet_step (fail) | (go_big_quiet_want; first | refine quiet_conv mk3 rfl rfl rfl (by simp only [Act.put, List.setIfInBounds_toArray, List.set_cons_succ, List.set_cons_zero]; rfl) ?_; go_big_quiet_on))
  refine wpQuiet_nil ?_
  refine wpMix_eff (by kernel_rfl) ?_
  go_wp2_with fail
  refine (N2.out _ _).mono ?_
  rintro e w' ⟨rfl, rfl⟩
  go_wp2
  refine MixK.on (InS.mk ((mH.out _).2 ⟨R6.out.cellD 0 _ rfl, R6.out.cellD 1 _ rfl, R6.out.cellD 2 _ rfl, CV.out _ (Keeps.refl None w6).drew⟩)) ?_
  refine wpMix_seg 3 (by kernel_rfl) (by decide) ?_
  simp only [List.take_succ_cons, List.take_zero, List.drop_succ_cons, List.drop_zero]
  repeat (first | go_big_quiet_step (fail) | (go_big_quiet_want; first | refine quiet_conv mk3 rfl rfl rfl (by simp only [Act.put, List.setIfInBounds_toArray, List.set_cons_succ, List.set_cons_zero]; rfl) ?_; go_big_quiet_on))
  refine wpQuiet_nil ?_
  refine wpMix_eff (by kernel_rfl) ?_
  go_wp2_with fail
  refine (N2.out _ _).mono ?_
  rintro e w' ⟨rfl, rfl⟩
  go_wp2
  refine MixK.on (InS.mk ((mH.out _).2 ⟨R6.out.cellD 0 _ rfl, R6.out.cellD 1 _ rfl, R6.out.cellD 2 _ rfl, CV.out _ (Keeps.refl None w6).drew⟩)) ?_
  refine wpMix_seg 4 (by kernel_rfl) (by decide) ?_
  simp only [List.take_succ_cons, List.take_zero, List.drop_succ_cons, List.drop_zero]
  repeat (first | go_big_quiet_step (fail) | (go_big_quiet_want; first | refine quiet_conv mk3 rfl rfl rfl (by simp only [Act.put, List.setIfInBounds_toArray, List.set_cons_succ, List.set_cons_zero]; rfl) ?_; go_big_quiet_on))
  refine wpQuiet_nil ?_
  refine wpMix_eff (by kernel_rfl) ?_
  go_wp2_with fail
  refine (gsize_any _ _ 3 (by decide) _).mono ?_
  rintro e w7 ⟨rfl, k7⟩
  have K7 := Lib.hid ((Keeps.refl None w6).drew.trans k7 (T := None) (fun _ h => h) (fun _ _ h => h))
  have R7 := Lib.hid (k7.blk R6.out.drew (fun h => h))
  clear k7
  go_wp2
  refine MixK.on (InS.mk ((mH.out _).2 (⟨R7.out.cellD 0 _ rfl, R7.out.cellD 1 _ rfl, R7.out.cellD 2 _ rfl, CV.out _ K7.out⟩))) ?_
  refine wpMix_seg 5 (by kernel_rfl) (by decide) ?_
  simp only [List.take_succ_cons, List.take_zero, List.drop_succ_cons, List.drop_zero]
  repeat (first | go_big_quiet_step (fail) | (go_big_quiet_want; first | refine quiet_conv mk3 rfl rfl rfl (by simp only [Act.put, List.setIfInBounds_toArray, List.set_cons_succ, List.set_cons_zero]; rfl) ?_; go_big_quiet_on))
  refine wpQuiet_nil ?_
  refine wpMix_eff (by kernel_rfl) ?_
  go_wp2
  have K8 := Lib.hid (K7.out.alloc (.cells (Array.replicate N (.int .u8 0)) 5))
  have R8 := Lib.hid (R7.out.alloc (.cells (Array.replicate N (.int .u8 0)) 5))
  have sc := run_str (ownBs (ZB.out w7))
  rw [HSZ.out] at sc
  refine MixK.on (InS.mk ((mH.out _).2 (⟨R8.out.cellD 0 _ rfl, R8.out.cellD 1 _ rfl, R8.out.cellD 2 _ rfl, CV.out _ K8.out⟩))) ?_
  refine wpMix_eff (by kernel_rfl) ?_
  go_wp2
  refine MixK.on (InS.mk ((mH.out _).2 (⟨R8.out.cellD 0 _ rfl, R8.out.cellD 1 _ rfl, R8.out.cellD 2 _ rfl, CV.out _ K8.out⟩))) ?_
  refine wpMix_seg 3 (by kernel_rfl) (by decide) ?_
  simp only [List.take_succ_cons, List.take_zero, List.drop_succ_cons, List.drop_zero]
  repeat (first | go_big_quiet_step (fail) | (go_big_quiet_want; first | refine quiet_conv mk3 rfl rfl rfl (by simp only [Act.put, List.setIfInBounds_toArray, List.set_cons_succ, List.set_cons_zero]; rfl) ?_; go_big_quiet_on))
  refine wpQuiet_nil ?_
  refine wpMix_nil ?_
  clear mk0 mk1 mk2 mk3 mn mH
  go_wp2
  go_ret
  exact ⟨by first | rfl | simp, (H6.out.later K8.out).keeps⟩
end Go.Proofs.Ytngofnlhbhfigaa
