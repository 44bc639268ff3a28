/- The walks of the reference's Erase and NewFlash. -/
import Derived.Test.YtngofnlhbhfigaaRfProg
namespace Go.Proofs.Ytngofnlhbhfigaa
open Go.RowKit

set_option maxRecDepth 100000 in
set_option maxHeartbeats 800000 in
theorem rferase_any (B : Nat) (L : RL) (s : FS) (q : Nat) (k : Int) (w : World) (h : RAt w B L s) (hq : L.bf = q) (hst : 0 ≤ s.steps ∧ s.steps ≤ 1000000000000) (her : ∀ i, 0 ≤ s.er.getD i 0 ∧ s.er.getD i 0 ≤ 1000000000000) :
    Calls Try.prog 80 #[.pointer (some ⟨q, 0, none⟩), .int .i64 k] w (RProgTold w B L (s.eraseF k)) := by
  have hel := h.el
  have HT := Lib.hid (RTurn.self h)
  have EF : Hid (s.eraseF k = if s.dark = true then (s, 5) else if k < 0 ∨ (L.n : Int) ≤ k then (s, 2)
      else if s.left = 0 then ({ (s.erased k.toNat).stepped with b := splice s.b (1024 * k.toNat) (halfN ((s.b.drop (1024 * k.toNat)).take 1024) s.pick) }, 5)
      else ({ (s.erased k.toNat).stepped with b := splice s.b (1024 * k.toNat) (List.replicate 1024 255) }, 0)) := by
    show s.eraseF k = _
    unfold FS.eraseF; rw [hel]
  cases hd : s.dark with
  | true =>
    rw [hd] at EF
    have EG : Hid (s.eraseF k = (s, 5)) := by show _ = _; rw [EF.out, if_pos rfl]
    clear EF
    obtain ⟨bf, gb, ge, N, capb, n, pA, pc, pk⟩ := L
    simp only [] at hq
    subst hq
    have c0 := h.f.cellD 0 _ rfl
    have c1 := h.f.cellD 1 _ rfl
    have c2 := h.f.cellD 2 _ rfl
    have c3 := h.f.cellD 3 _ rfl
    have c4 := h.f.cellD 4 _ rfl
    have c5 := h.f.cellD 5 _ rfl
    have hcap := h.bs.le
    have hcmx := h.bs.max
    have hN := h.nN
    have hn0 := h.n0
    have hn9 := h.n9
    have H := Lib.hid h
    simp only [] at c0 c1 c2 c3 c4 c5 hcap hcmx hN hn0 hn9
    have hNb : N ≤ 262144 := by omega
    have hN1 : 1024 ≤ N := by omega
    have HN := Lib.hid hN
    clear h hN
    rw [hd] at c5
    clear hd hel her
    go_enter Try.func80, Try.ntmps80
    go_wp2
    go_ret
    rw [EG.out]
    exact ⟨rfl, _, HT.out⟩
  | false =>
  rw [hd] at EF
  by_cases q1 : k < 0
  · have d1 : decide (k < 0) = true := decide_eq_true q1
    have EG : Hid (s.eraseF k = (s, 2)) := by show _ = _; rw [EF.out, if_neg (by decide), if_pos (.inl q1)]
    clear EF
    obtain ⟨bf, gb, ge, N, capb, n, pA, pc, pk⟩ := L
    simp only [] at hq
    subst hq
    have c0 := h.f.cellD 0 _ rfl
    have c1 := h.f.cellD 1 _ rfl
    have c2 := h.f.cellD 2 _ rfl
    have c3 := h.f.cellD 3 _ rfl
    have c4 := h.f.cellD 4 _ rfl
    have c5 := h.f.cellD 5 _ rfl
    have hcap := h.bs.le
    have hcmx := h.bs.max
    have hN := h.nN
    have hn0 := h.n0
    have hn9 := h.n9
    have H := Lib.hid h
    simp only [] at c0 c1 c2 c3 c4 c5 hcap hcmx hN hn0 hn9
    have hNb : N ≤ 262144 := by omega
    have hN1 : 1024 ≤ N := by omega
    have HN := Lib.hid hN
    clear h hN
    rw [hd] at c5
    clear hd hel her
    go_enter Try.func80, Try.ntmps80
    go_wp2
    go_ret
    rw [EG.out]
    exact ⟨rfl, _, HT.out⟩
  have d1 : decide (k < 0) = false := decide_eq_false q1
  by_cases q2 : (L.n : Int) ≤ k
  · have d2 : decide ((L.n : Int) ≤ k) = true := decide_eq_true q2
    have EG : Hid (s.eraseF k = (s, 2)) := by show _ = _; rw [EF.out, if_neg (by decide), if_pos (.inr q2)]
    clear EF
    obtain ⟨bf, gb, ge, N, capb, n, pA, pc, pk⟩ := L
    simp only [] at hq
    subst hq
    have c0 := h.f.cellD 0 _ rfl
    have c1 := h.f.cellD 1 _ rfl
    have c2 := h.f.cellD 2 _ rfl
    have c3 := h.f.cellD 3 _ rfl
    have c4 := h.f.cellD 4 _ rfl
    have c5 := h.f.cellD 5 _ rfl
    have hcap := h.bs.le
    have hcmx := h.bs.max
    have hN := h.nN
    have hn0 := h.n0
    have hn9 := h.n9
    have H := Lib.hid h
    simp only [] at c0 c1 c2 c3 c4 c5 hcap hcmx hN hn0 hn9
    have hNb : N ≤ 262144 := by omega
    have hN1 : 1024 ≤ N := by omega
    have HN := Lib.hid hN
    clear h hN
    simp only [] at d2 q2
    rw [hd] at c5
    clear hd hel her
    go_enter Try.func80, Try.ntmps80
    go_wp2
    go_ret
    rw [EG.out]
    exact ⟨rfl, _, HT.out⟩
  obtain ⟨i, rfl⟩ : ∃ i : Nat, k = i := ⟨k.toNat, by omega⟩
  have d2 : decide ((L.n : Int) ≤ i) = false := decide_eq_false q2
  have d3 : decide (L.n ≤ i) = false := decide_eq_false (by omega)
  have hi : i < L.n := by omega
  have hc := h.e.cellD i _ (map_getD 0 (by rw [hel]; exact hi))
  have hfz := h.e.frozen i
  have hs8 := her i
  obtain ⟨a, ha⟩ : ∃ a, 1024 * i = a := ⟨_, rfl⟩
  have haN : a + 1024 ≤ L.N := by have := h.nN; omega
  simp only [Int.toNat_natCast] at EF
  rw [ha, if_neg (by decide), if_neg (by omega)] at EF
  obtain ⟨st1, st2⟩ := hst
  -- the flash with one more erasure counted
  have ES := Lib.hid (fun w' (hk : Keeps (fun k => k = L.ge) w w') (he : Blk w' L.ge ((s.er.map (.int .i64)).set i (.int .i64 (s.er.getD i 0 + 1))) 3) => show RAt w' B L (s.erased i) from h.sect hk (by rw [← List.map_set] at he; exact he) (by rw [List.length_set]))
  have BRK := Lib.hid (fun w' (hh : RAt w' B L (s.erased i)) => rfstep_any B L (s.erased i) L.bf w' hh rfl hd ⟨st1, st2⟩)
  have EB : Hid ((s.erased i).stepped.b = s.b) := by show (s.erased i).stepped.b = s.b; rw [FS.stepped_b]; rfl
  have BE := Lib.hid h.e
  have LFT : Hid ((s.erased i).left = s.left) := rfl
  have PCK : Hid ((s.erased i).pick = s.pick) := rfl
  generalize s.er.getD i 0 = x at *
  generalize s.erased i = s1 at *
  clear HT hel her q1 q2
  obtain ⟨bf, gb, ge, N, capb, n, pA, pc, pk⟩ := L
  simp only [] at hq
  subst hq
  have c0 := h.f.cellD 0 _ rfl
  have c1 := h.f.cellD 1 _ rfl
  have c2 := h.f.cellD 2 _ rfl
  have c3 := h.f.cellD 3 _ rfl
  have c4 := h.f.cellD 4 _ rfl
  have c5 := h.f.cellD 5 _ rfl
  have hcap := h.bs.le
  have hcmx := h.bs.max
  have hN := h.nN
  have hn0 := h.n0
  have hn9 := h.n9
  have H := Lib.hid h
  simp only [] at c0 c1 c2 c3 c4 c5 hcap hcmx hN hn0 hn9
  have hNb : N ≤ 262144 := by omega
  have hN1 : 1024 ≤ N := by omega
  have HN := Lib.hid hN
  clear h hN
  simp only [] at d2 d3 hi hc hfz haN
  rw [hd] at c5
  clear hd
  simp only [] at BRK ES BE
  have f1 : (1024 * (i : Int)) = a := by omega
  have f2 : ((i : Int) * 1024) = a := by omega
  have f4 : ¬ capb = a := by omega
  have f5 : a + 1024 - a = 1024 := by omega
  have f6 : i * 1024 = a := by omega
  by_cases h0 : s.left = 0
  · have EL : Hid (decide (s1.left = 0) = true) := by show decide (s1.left = 0) = true; rw [LFT.out]; exact decide_eq_true h0
    have ER : Hid (s.eraseF i = ({ s1.stepped with b := splice s.b a (halfN ((s.b.drop a).take 1024) s.pick) }, 5)) := by show _ = _; rw [EF.out, if_pos h0]
    have hpk := H.out.armed (by omega)
    simp only [] at hpk
    rw [← hpk] at ER
    have SC := Lib.hid (stepped_cut (s := s1) (LFT.out.trans h0))
    clear EF h0 hpk
    go_enter Try.func80, Try.ntmps80
    go_wp2_with fail
    have KE : Hid (Keeps (fun k => k = ge) w (w.setCell ⟨ge, i, none⟩ (.int .i64 (x + 1)))) := (Keeps.self ge w).put i _
    have F1 := Lib.hid (ES.out _ KE.out (BE.out.set i _))
    refine (BRK.out _ F1.out).mono ?_
    rintro e w2 ⟨rfl, kb, hf2⟩
    rw [EL.out]
    have K2 : Hid (Keeps (fun k => k = bf ∨ k = gb ∨ k = ge) w w2) := KE.out.trans kb (fun _ h => .inr (.inr h)) (fun _ _ h => .inl h)
    have y0 := hf2.f.cellD 0 _ rfl
    have y4 := hf2.f.cellD 4 _ rfl
    simp only [] at y0 y4
    have F2 := Lib.hid hf2
    clear kb hf2 KE F1 BRK ES BE
    go_wp2
    obtain ⟨mS, mh⟩ : ∃ S : World → Prop, ∀ w', S w' ↔ (w'.cell? ⟨bf, 0, none⟩ = some (.slice (some ⟨gb, 0, none⟩) N capb) ∧ w'.cell? ⟨bf, 4, none⟩ = some (.slice pA pk.length pc)) := ⟨_, fun _ => Iff.rfl⟩
    have mk0 : ∀ x : Memb mS, x.at_.cell? ⟨bf, 0, none⟩ = some (.slice (some ⟨gb, 0, none⟩) N capb) := fun x => ((mh _).1 x.is).1
    have mk1 : ∀ x : Memb mS, x.at_.cell? ⟨bf, 4, none⟩ = some (.slice pA pk.length pc) := fun x => ((mh _).1 x.is).2
    have mn : Nonempty (Memb mS) := ⟨⟨(w2).drew, (mh _).2 ⟨y0, y4⟩⟩⟩
    have mH := Lib.hid mh
    clear mh
    refine wp_region_mix [14, 15] (InS mS) (by kernel_rfl) (by kernel_rfl) (InS.mk ((mH.out _).2 ⟨y0, y4⟩)) ?_
    refine wpMix_seg 14 (by kernel_rfl) (by decide) ?_
    simp only [List.take_succ_cons, List.take_zero, List.drop_succ_cons, List.drop_zero]
    repeat (go_big_quiet_step (fail))
    refine wpQuiet_nil ?_
    refine wpMix_eff (by kernel_rfl) ?_
    go_wp2_with fail
    have C2 : Hid (Bs w2.drew (some ⟨gb, a, none⟩) 1024 (capb - a) ((s.b.drop a).take 1024)) := by have := F2.out.drew.cut (i := a) (j := 1024) haN; rwa [EB.out] at this
    have P2 : Hid (Bs w2.drew pA pk.length pc pk) := ownBs (show Own w2.drew B (.slice pA pk.length pc) pk from F2.out.drew.p)
    refine (rhalf_any _ _ _ _ _ _ _ _ _ C2.out P2.out (by omega)).mono ?_
    rintro e w3 ⟨v3, rfl, o3, k3⟩
    obtain ⟨A3, c3, rfl, bs3, -⟩ := o3.shape
    have TL := halfN_len ((s.b.drop a).take 1024) pk
    rw [C2.out.len] at TL
    rw [TL] at bs3 ⊢
    have F3 := Lib.hid (F2.out.drew.later k3)
    have K3 : Hid (Keeps (fun k => k = bf ∨ k = gb ∨ k = ge) w w3) := K2.out.drew.trans k3 (fun _ h => h) (fun _ _ h => h.elim)
    have SE := Lib.hid (rfset_any B _ s1.stepped bf a A3 1024 c3 _ w3 F3.out rfl bs3 haN (fun b off _ e e2 => by
    subst e
    have := F2.out.drew.lt b (by subst e2; exact .inl (.inr (.inl rfl)))
    exact o3.notBelow this rfl))
    clear o3 k3 bs3 TL C2 P2
    go_wp2
    refine MixK.on (InS.mk ((mH.out _).2 (⟨F3.out.f.cellD 0 _ rfl, F3.out.f.cellD 4 _ rfl⟩))) ?_
    refine wpMix_eff (by kernel_rfl) ?_
    go_wp2_with fail
    refine SE.out.mono ?_
    rintro e w4 ⟨rfl, h4, k4⟩
    rw [EB.out] at h4
    have H4 := Lib.hid h4
    have K4 : Hid (Keeps (fun k => k = bf ∨ k = gb ∨ k = ge) w w4) := K3.out.trans k4 (fun _ h => h) (fun _ _ h => .inr (.inl h))
    clear h4 k4 SE
    go_wp2
    refine MixK.last (by kernel_rfl) ?_
    refine wpMix_nil ?_
    clear mk0 mk1 mn mH
    clear y0 y4
    have z4 := H4.out.f.frozen 4
    have y4 := H4.out.f.cellD 4 _ rfl
    simp only [] at z4 y4
    go_wp2
    go_ret
    have T5 := H4.out.unpick SC.out.1 rfl
    refine ⟨by rw [ER.out]; rfl, ⟨bf, gb, ge, N, capb, n, none, 0, []⟩, ?_, ?_, rfl, rfl, fun k h => ?_⟩
    · rw [ER.out]
      exact T5.at_
    · exact (K4.out.trans ((Keeps.self bf w4).put 4 (.slice none 0 0)) (T := fun k => k = bf ∨ k = gb ∨ k = ge) (fun _ h => h) (fun _ _ h => .inl h)).mono (fun _ _ h => .inl h)
    · rcases h with h | h
      · exact .inl (.inl h)
      · cases h
  · have EL : Hid (decide (s1.left = 0) = false) := by show decide (s1.left = 0) = false; rw [LFT.out]; exact decide_eq_false h0
    have ER : Hid (s.eraseF i = ({ s1.stepped with b := splice s.b a (List.replicate 1024 255) }, 0)) := by show _ = _; rw [EF.out, if_neg h0]
    have BL : Hid (∀ w, Calls Try.prog 77 #[.int .i64 1024] w (Cloned w (List.replicate 1024 255))) := fun w => rblank_any 1024 w
    have BKL : Hid ((List.replicate 1024 (255 : Int)).length = 1024) := List.length_replicate
    generalize List.replicate 1024 (255 : Int) = bk at *
    clear EF h0
    go_enter Try.func80, Try.ntmps80
    go_wp2_with fail
    have KE : Hid (Keeps (fun k => k = ge) w (w.setCell ⟨ge, i, none⟩ (.int .i64 (x + 1)))) := (Keeps.self ge w).put i _
    have F1 := Lib.hid (ES.out _ KE.out (BE.out.set i _))
    refine (BRK.out _ F1.out).mono ?_
    rintro e w2 ⟨rfl, kb, hf2⟩
    rw [EL.out]
    have K2 : Hid (Keeps (fun k => k = bf ∨ k = gb ∨ k = ge) w w2) := KE.out.trans kb (fun _ h => .inr (.inr h)) (fun _ _ h => .inl h)
    have F2 := Lib.hid hf2
    clear kb hf2 KE F1 BRK ES BE
    go_wp2_with fail
    refine (BL.out _).mono ?_
    rintro e w3 ⟨v3, rfl, o3, k3⟩
    obtain ⟨A3, c3, rfl, bs3, -⟩ := o3.shape
    rw [BKL.out] at bs3 ⊢
    have F3 := Lib.hid (F2.out.later k3)
    have K3 : Hid (Keeps (fun k => k = bf ∨ k = gb ∨ k = ge) w w3) := K2.out.trans k3 (fun _ h => h) (fun _ _ h => h.elim)
    have SE := Lib.hid (rfset_any B _ s1.stepped bf a A3 1024 c3 _ w3 F3.out rfl bs3 haN (fun b off _ e e2 => by
      subst e
      have := F2.out.lt b (by subst e2; exact .inl (.inr (.inl rfl)))
      exact o3.notBelow this rfl))
    clear o3 k3 bs3
    go_wp2_with fail
    refine SE.out.mono ?_
    rintro e w4 ⟨rfl, h4, k4⟩
    rw [EB.out] at h4
    have H4 := Lib.hid h4
    have K4 : Hid (Keeps (fun k => k = bf ∨ k = gb ∨ k = ge) w w4) := K3.out.trans k4 (fun _ h => h) (fun _ _ h => .inr (.inl h))
    clear h4 k4 SE
    go_wp2
    go_ret
    refine ⟨by rw [ER.out]; rfl, ⟨bf, gb, ge, N, capb, n, pA, pc, pk⟩, ?_, K4.out.mono (fun _ _ h => .inl h), rfl, rfl, fun _ h => .inl h⟩
    rw [ER.out]
    exact H4.out

/-- A flash of the reference that was made. -/
def RMade (w : World) (n : Int) (e : Ending) (w' : World) : Prop := ∃ L, e = .returned (.pointer (some ⟨L.bf, 0, none⟩)) ∧ RAt w' w.heap.size L (newF n) ∧ L.n = (max 1 (min n 256)).toNat ∧ Keeps None w w'
set_option maxRecDepth 100000 in
set_option maxHeartbeats 800000 in
theorem rfnew_any (k : Int) (w : World) : Calls Try.prog 35 #[.int .i64 k] w (RMade w k) := by
  obtain ⟨n, hn⟩ : ∃ n : Nat, (max 1 (min k 256)) = n := ⟨(max 1 (min k 256)).toNat, by omega⟩
  have hn1 : 1 ≤ n := by omega
  have hn2 : n ≤ 256 := by omega
  have HN : Hid (newF k = { b := List.replicate (1024 * n) 255, er := List.replicate n 0, steps := 0, left := -1, pick := [], dark := false }) := by
    show newF k = _
    have e : (max 1 (min k 256)).toNat = n := by omega
    unfold newF; rw [e]
  have HM : Hid (n = (max 1 (min k 256)).toNat) := by show _ = _; omega
  have CP := Lib.hid (fun w => cap_any k 1 256 (by decide) w)
  rw [hn] at CP
  clear hn
  have hmk := fun w => run_make_blk (P := Try.prog) 49 3 (.int .i64 0) 8 Try.underlying49 Try.infoI3 rfl .i64 .i64 (n : Int) (n : Int) n rfl rfl (by omega) (by omega) w
  have BL : Hid (∀ w, Calls Try.prog 77 #[.int .i64 1024] w (Cloned w (List.replicate 1024 255))) := fun w => rblank_any 1024 w
  go_enter Try.func35, Try.ntmps35
  go_wp2_with fail
  refine (CP.out _).mono ?_
  rintro e w' ⟨rfl, rfl⟩
  go_wp2
  have e0 : (w.alloc (.cells (List.replicate n (Value.int .i64 0)).toArray 3)).heap.size = w.heap.size + 1 := by simp
  have BE0 : Hid (Blk ((w.alloc (.cells (List.replicate n (Value.int .i64 0)).toArray 3)).alloc (.cells #[.slice none 0 0, .slice (some ⟨w.heap.size, 0, none⟩) n n, .int .i64 0, .int .i64 (-1), .slice none 0 0, .bool false] 51)) w.heap.size (List.replicate n (.int .i64 0)) 3) := (Blk.new w (List.replicate n (.int .i64 0)) 3).alloc _
  have BF0 : Hid (Blk ((w.alloc (.cells (List.replicate n (Value.int .i64 0)).toArray 3)).alloc (.cells #[.slice none 0 0, .slice (some ⟨w.heap.size, 0, none⟩) n n, .int .i64 0, .int .i64 (-1), .slice none 0 0, .bool false] 51)) (w.heap.size + 1) [.slice none 0 0, .slice (some ⟨w.heap.size, 0, none⟩) n n, .int .i64 0, .int .i64 (-1), .slice none 0 0, .bool false] 51) := by
    have := Blk.new (w.alloc (.cells (List.replicate n (Value.int .i64 0)).toArray 3)) [.slice none 0 0, .slice (some ⟨w.heap.size, 0, none⟩) n n, .int .i64 0, .int .i64 (-1), .slice none 0 0, .bool false] 51
    rw [e0] at this
    exact this
  have K0 : Hid (Keeps None w ((w.alloc (.cells (List.replicate n (Value.int .i64 0)).toArray 3)).alloc (.cells #[.slice none 0 0, .slice (some ⟨w.heap.size, 0, none⟩) n n, .int .i64 0, .int .i64 (-1), .slice none 0 0, .bool false] 51))) := ((Keeps.refl None w).alloc _).alloc _
  clear e0 hmk
  go_loopw [5] (fun iv wr => ∃ (j : Nat) (A : Option Addr) (c : Nat), j ≤ n ∧ iv = .int .i64 j ∧ Blk wr (w.heap.size + 1) [.slice A (1024 * j) c, .slice (some ⟨w.heap.size, 0, none⟩) n n, .int .i64 0, .int .i64 (-1), .slice none 0 0, .bool false] 51 ∧ Blk wr w.heap.size (List.replicate n (.int .i64 0)) 3 ∧ Own wr (w.heap.size + 2) (.slice A (1024 * j) c) (List.replicate (1024 * j) 255) ∧ Keeps None w wr) (fun iv _ => n - (intOf iv).toNat)
  case atStart =>
    refine ⟨0, none, 0, Nat.zero_le _, rfl, ?_, ?_, Own.nil _ _, ?_⟩
    · simpa using BF0.out
    · simpa using BE0.out
    · simpa using K0.out
  case round =>
    obtain ⟨j, A, c, hj, rfl, hbf, hbe, hbo, hkp⟩ := hrel
    have HBF := Lib.hid hbf
    have HBE := Lib.hid hbe
    have HBO := Lib.hid hbo
    have HKP := Lib.hid hkp
    clear hbf hbe hbo hkp BE0 BF0 K0
    obtain ⟨wv, rfl⟩ : ∃ x, x = wr := ⟨_, rfl⟩
    by_cases hlt : j < n
    · have x1 : decide (j < n) = true := decide_eq_true hlt
      have x2 : decide ((j : Int) < n) = true := decide_eq_true (by omega)
      have E1 : Hid (1024 * j + 1024 = 1024 * (j + 1)) := by show 1024 * j + 1024 = 1024 * (j + 1); omega
      go_wp2
      obtain ⟨mS, mh⟩ : ∃ S : World → Prop, ∀ w', S w' ↔ (w'.cell? ⟨w.heap.size + 1, 0, none⟩ = some (.slice A (1024 * j) c)) := ⟨_, fun _ => Iff.rfl⟩
      have mk0 : ∀ x : Memb mS, x.at_.cell? ⟨w.heap.size + 1, 0, none⟩ = some (.slice A (1024 * j) c) := fun x => ((mh _).1 x.is)
      have mn : Nonempty (Memb mS) := ⟨⟨(wv).drew, (mh _).2 (HBF.out.cellD 0 _ rfl)⟩⟩
      have mH := Lib.hid mh
      clear mh
      refine wp_region_mix [5, 6, 9] (InS mS) (by kernel_rfl) (by kernel_rfl) (InS.mk ((mH.out _).2 (HBF.out.cellD 0 _ rfl))) ?_
      refine wpMix_seg 5 (by kernel_rfl) (by decide) ?_
      simp only [List.take_succ_cons, List.take_zero, List.drop_succ_cons, List.drop_zero]
      repeat (go_big_quiet_step (fail))
      refine wpQuiet_nil ?_
      refine wpMix_eff (by kernel_rfl) ?_
      go_wp2_with fail
      refine (BL.out _).mono ?_
      rintro e w3 ⟨v3, rfl, o3, k3⟩
      obtain ⟨A3, c3, rfl, bs3, -⟩ := o3.shape
      rw [List.length_replicate] at bs3 ⊢
      have B3 := Lib.hid bs3
      have BF3 := Lib.hid (k3.blk HBF.out.drew (fun h => h))
      have BE3 := Lib.hid (k3.blk HBE.out.drew (fun h => h))
      have BO3 := Lib.hid (HBO.out.drew.keeps k3 (fun _ _ h => h))
      have K3 := Lib.hid (HKP.out.drew.trans k3 (T := None) (fun _ h => h) (fun _ _ h => h))
      clear o3 bs3 k3
      go_wp2
      refine MixK.on (InS.mk ((mH.out _).2 (BF3.out.cellD 0 _ rfl))) ?_
      refine wpMix_eff (by kernel_rfl) ?_
      go_wp2_with (at_builtin; refine Hid.out ?_)
      refine Lib.hid ?_
      refine wpList_append_bs BO3.out B3.out (by rw [List.length_replicate]; omega) (Nat.succ_le_of_lt BF3.out.lt) rfl rfl rfl rfl rfl ?_
      intro v4 w4 ho4 hk4
      rw [rep_add, E1.out] at ho4
      obtain ⟨A4, c4, rfl, bs4, -⟩ := ho4.shape
      rw [List.length_replicate] at ho4 ⊢
      have O4 := Lib.hid ho4
      have BF4 := Lib.hid (hk4.blk BF3.out (fun e => BO3.out.notBelow (by omega) e))
      have BE4 := Lib.hid (hk4.blk BE3.out (fun e => BO3.out.notBelow (by omega) e))
      have K4 := Lib.hid (K3.out.trans hk4 (T := None) (fun _ h => h) (fun i hi e => absurd e (BO3.out.notBelow (by omega))))
      clear ho4 hk4 bs4 BF3 BE3 BO3 K3 B3
      have y0 := BF4.out.cellD 0 _ rfl
      have z0 := BF4.out.frozen 0
      go_wp2
      refine MixK.on (InS.mk ((mH.out _).2 (y0))) ?_
      refine wpMix_seg 2 (by kernel_rfl) (by decide) ?_
      simp only [List.take_succ_cons, List.take_zero, List.drop_succ_cons, List.drop_zero]
      repeat (go_big_quiet_step (fail))
      refine wpQuiet_nil ?_
      refine wpMix_eff (by kernel_rfl) ?_
      go_wp2
      refine MixK.last (by kernel_rfl) ?_
      refine wpMix_nil ?_
      clear mk0 mn mH
      have GN : Hid (w.heap.size + 1 < w.heap.size + 2) := Nat.lt_succ_self _
      have O5 := Lib.hid (O4.out.keeps ((Keeps.self (w.heap.size + 1) w4).put 0 (.slice A4 (1024 * (j + 1)) c4)) (fun b e h => O4.out.notBelow (i := b) (by subst h; exact GN.out) e))
      have BE5 := Lib.hid (BE4.out.setOther ⟨w.heap.size + 1, 0, none⟩ (.slice A4 (1024 * (j + 1)) c4) (Nat.ne_of_lt (Nat.lt_succ_self _)))
      have BF5 := Lib.hid (BF4.out.set 0 (.slice A4 (1024 * (j + 1)) c4))
      have K5 := Lib.hid (K4.out.setCell ⟨w.heap.size + 1, 0, none⟩ (.slice A4 (1024 * (j + 1)) c4) (fun h => absurd h (Nat.not_lt.2 (Nat.le_succ _))))
      clear O4 BF4 BE4 K4 y0 z0
      go_wp2
      go_roundw
      case rel => exact ⟨j + 1, A4, c4, hlt, by go_num, BF5.out, BE5.out, O5.out, K5.out⟩
      case measure => simp [intOf]; omega
    · obtain rfl : j = n := by omega
      have x2 : decide ((j : Int) < j) = false := decide_eq_false (by omega)
      obtain ⟨gb, rfl, hg1, -, -, hle, hmx, -, -⟩ := HBO.out.at_ (k := 0) (by omega)
      go_wp2
      go_ret
      refine ⟨⟨w.heap.size + 1, gb, w.heap.size, 1024 * j, c, j, none, 0, []⟩, rfl, ?_, HM.out, HKP.out⟩
      rw [HN.out]
      exact ⟨HBF.out, HBO.out.lower (by omega), by simpa using HBE.out, Own.nil _ _, by simp, fun h => absurd h (show ¬ (0 : Int) ≤ -1 by decide), (show (-1 : Int) ≤ -1 by decide), (show (-1 : Int) ≤ 9223372036854775807 by decide), rfl, hn1, hn2, Nat.le_succ _, Nat.le_refl _, by show w.heap.size + 1 ≠ gb; omega, by show w.heap.size + 1 ≠ w.heap.size; omega, by show gb ≠ w.heap.size; omega, fun g hg => (by cases hg), (by show ([] : List Int).length ≤ _; decide)⟩
end Go.Proofs.Ytngofnlhbhfigaa
