
/- The walks of flash.Erase and flash.New. -/
import Derived.Test.YtgehkioneelgcaaJCub
namespace Go.Proofs.Ytgehkioneelgcaa
open Go.RowKit

theorem halfN_len (os ps : List Int) : (halfN os ps).length = os.length := halfTo_length _ _ _

set_option maxRecDepth 100000 in
set_option maxHeartbeats 800000 in
theorem ferase_any (B : Nat) (L : FL) (s : FS) (k : Int) (w : World) (h : FAt w B L s) (hst : 0 ≤ s.steps ∧ s.steps ≤ 1000000000000) (her : ∀ i, 0 ≤ s.er.getD i 0 ∧ s.er.getD i 0 ≤ 1000000000000) :
    Calls Try.prog 55 #[L.p, .int .i64 k] w (ProgTold w B L (s.eraseF k)) := by
  have hel := h.el
  have HT := Lib.hid (Turn.self h)
  have EF : Hid (s.eraseF k = if s.dark = true then (s, 5) else if k < 0 ∨ (L.n : Int) ≤ k then (s, 2)
      else if s.left = 0 then ({ (s.erased k.toNat).stepped with b := splice s.b (1024 * k.toNat) (halfN ((s.b.drop (1024 * k.toNat)).take 1024) s.pick) }, 5)
      else ({ (s.erased k.toNat).stepped with b := splice s.b (1024 * k.toNat) (List.replicate 1024 255) }, 0)) := by
    show s.eraseF k = _
    unfold FS.eraseF; rw [hel]
  cases hd : s.dark with
  | true =>
    rw [hd] at EF
    have EG : Hid (s.eraseF k = (s, 5)) := by show _ = _; rw [EF.out, if_pos rfl]
    clear EF
    obtain ⟨bf, gb, ge, N, capb, n, af, pA, pc, pk⟩ := L
    have c0 := h.f.cellD 0 _ rfl
    have c1 := h.f.cellD 1 _ rfl
    have c2 := h.f.cellD 2 _ rfl
    have c3 := h.f.cellD 3 _ rfl
    have c4 := h.f.cellD 4 _ rfl
    have c5 := h.f.cellD 5 _ rfl
    have c6 := h.f.cellD 6 _ rfl
    have hcap := h.bs.le
    have hcmx := h.bs.max
    have hN := h.nN
    have hn0 := h.n0
    have hn9 := h.n9
    have H := Lib.hid h
    simp only [] at c0 c1 c2 c3 c4 c5 c6 hcap hcmx hN hn0 hn9
    have hNb : N ≤ 262144 := by omega
    have hN1 : 1024 ≤ N := by omega
    have HN := Lib.hid hN
    clear h hN
    simp only [FL.p, FL.pv]
    rw [hd] at c3
    clear hd hel her
    go_enter Try.func55, Try.ntmps55
    go_wp2
    go_ret
    rw [EG.out]
    exact ⟨rfl, _, HT.out⟩
  | false =>
  rw [hd] at EF
  by_cases q1 : k < 0
  · have d1 : decide (k < 0) = true := decide_eq_true q1
    have EG : Hid (s.eraseF k = (s, 2)) := by show _ = _; rw [EF.out, if_neg (by decide), if_pos (.inl q1)]
    clear EF
    obtain ⟨bf, gb, ge, N, capb, n, af, pA, pc, pk⟩ := L
    have c0 := h.f.cellD 0 _ rfl
    have c1 := h.f.cellD 1 _ rfl
    have c2 := h.f.cellD 2 _ rfl
    have c3 := h.f.cellD 3 _ rfl
    have c4 := h.f.cellD 4 _ rfl
    have c5 := h.f.cellD 5 _ rfl
    have c6 := h.f.cellD 6 _ rfl
    have hcap := h.bs.le
    have hcmx := h.bs.max
    have hN := h.nN
    have hn0 := h.n0
    have hn9 := h.n9
    have H := Lib.hid h
    simp only [] at c0 c1 c2 c3 c4 c5 c6 hcap hcmx hN hn0 hn9
    have hNb : N ≤ 262144 := by omega
    have hN1 : 1024 ≤ N := by omega
    have HN := Lib.hid hN
    clear h hN
    simp only [FL.p, FL.pv]
    rw [hd] at c3
    clear hd hel her
    go_enter Try.func55, Try.ntmps55
    go_wp2
    go_ret
    rw [EG.out]
    exact ⟨rfl, _, HT.out⟩
  have d1 : decide (k < 0) = false := decide_eq_false q1
  by_cases q2 : (L.n : Int) ≤ k
  · have d2 : decide ((L.n : Int) ≤ k) = true := decide_eq_true q2
    have EG : Hid (s.eraseF k = (s, 2)) := by show _ = _; rw [EF.out, if_neg (by decide), if_pos (.inr q2)]
    clear EF
    obtain ⟨bf, gb, ge, N, capb, n, af, pA, pc, pk⟩ := L
    have c0 := h.f.cellD 0 _ rfl
    have c1 := h.f.cellD 1 _ rfl
    have c2 := h.f.cellD 2 _ rfl
    have c3 := h.f.cellD 3 _ rfl
    have c4 := h.f.cellD 4 _ rfl
    have c5 := h.f.cellD 5 _ rfl
    have c6 := h.f.cellD 6 _ rfl
    have hcap := h.bs.le
    have hcmx := h.bs.max
    have hN := h.nN
    have hn0 := h.n0
    have hn9 := h.n9
    have H := Lib.hid h
    simp only [] at c0 c1 c2 c3 c4 c5 c6 hcap hcmx hN hn0 hn9
    have hNb : N ≤ 262144 := by omega
    have hN1 : 1024 ≤ N := by omega
    have HN := Lib.hid hN
    clear h hN
    simp only [FL.p, FL.pv]
    simp only [] at d2 q2
    rw [hd] at c3
    clear hd hel her
    go_enter Try.func55, Try.ntmps55
    go_wp2
    go_ret
    rw [EG.out]
    exact ⟨rfl, _, HT.out⟩
  obtain ⟨i, rfl⟩ : ∃ i : Nat, k = i := ⟨k.toNat, by omega⟩
  have d2 : decide ((L.n : Int) ≤ i) = false := decide_eq_false q2
  have d3 : decide (L.n ≤ i) = false := decide_eq_false (by omega)
  have hi : i < L.n := by omega
  have hc := h.e.cellD i _ (map_getD 0 (by rw [hel]; exact hi))
  have hfz := h.e.frozen i
  have hs8 := her i
  obtain ⟨a, ha⟩ : ∃ a, 1024 * i = a := ⟨_, rfl⟩
  have haN : a + 1024 ≤ L.N := by have := h.nN; omega
  simp only [Int.toNat_natCast] at EF
  rw [ha, if_neg (by decide), if_neg (by omega)] at EF
  obtain ⟨st1, st2⟩ := hst
  -- the flash with one more erasure counted
  have ES := Lib.hid (fun w' (hk : Keeps (fun k => k = L.ge) w w') (he : Blk w' L.ge ((s.er.map (.int .i64)).set i (.int .i64 (s.er.getD i 0 + 1))) 3) => show FAt w' B L (s.erased i) from h.sect hk (by rw [← List.map_set] at he; exact he) (by rw [List.length_set]))
  have BRK := Lib.hid (fun w' (hh : FAt w' B L (s.erased i)) => fbroken_any B L (s.erased i) w' hh ⟨st1, st2⟩)
  have EB : Hid ((s.erased i).stepped.b = s.b) := by show (s.erased i).stepped.b = s.b; rw [FS.stepped_b]; rfl
  have BE := Lib.hid h.e
  have LFT : Hid ((s.erased i).left = s.left) := rfl
  generalize s.er.getD i 0 = x at *
  generalize s.erased i = s1 at *
  clear HT hel her q1 q2
  obtain ⟨bf, gb, ge, N, capb, n, af, pA, pc, pk⟩ := L
  have c0 := h.f.cellD 0 _ rfl
  have c1 := h.f.cellD 1 _ rfl
  have c2 := h.f.cellD 2 _ rfl
  have c3 := h.f.cellD 3 _ rfl
  have c4 := h.f.cellD 4 _ rfl
  have c5 := h.f.cellD 5 _ rfl
  have c6 := h.f.cellD 6 _ rfl
  have hcap := h.bs.le
  have hcmx := h.bs.max
  have hN := h.nN
  have hn0 := h.n0
  have hn9 := h.n9
  have H := Lib.hid h
  simp only [] at c0 c1 c2 c3 c4 c5 c6 hcap hcmx hN hn0 hn9
  have hNb : N ≤ 262144 := by omega
  have hN1 : 1024 ≤ N := by omega
  have HN := Lib.hid hN
  clear h hN
  simp only [FL.p, FL.pv]
  simp only [] at d2 d3 hi hc hfz haN
  rw [hd] at c3
  clear hd
  simp only [FL.p] at BRK
  have f1 : (1024 * (i : Int)) = a := by omega
  have f2 : ((i : Int) * 1024) = a := by omega
  have f3 : (((i : Int) + 1) * 1024) = (a : Int) + 1024 := by omega
  have f4 : ¬ capb = a := by omega
  have f5 : a + 1024 - a = 1024 := by omega
  have f6 : i * 1024 = a := by omega
  have f7 : (i + 1) * 1024 = a + 1024 := by omega
  by_cases h0 : s.left = 0
  · have EL : Hid (decide (s1.left = 0) = true) := by show decide (s1.left = 0) = true; rw [LFT.out]; exact decide_eq_true h0
    have ER : Hid (s.eraseF i = ({ s1.stepped with b := splice s.b a (halfN ((s.b.drop a).take 1024) s.pick) }, 5)) := by show _ = _; rw [EF.out, if_pos h0]
    have hpk := (H.out.armed (by omega)).2
    simp only [] at hpk
    rw [← hpk] at ER
    clear EF h0 hpk
    go_enter Try.func55, Try.ntmps55
    go_wp2_with fail
    have KE : Hid (Keeps (fun k => k = ge) w (w.setCell ⟨ge, i, none⟩ (.int .i64 (x + 1)))) := (Keeps.self ge w).put i _
    have F1 := Lib.hid (ES.out _ KE.out (BE.out.set i _))
    refine (BRK.out _ F1.out).mono ?_
    rintro e w2 ⟨rfl, kb, af2, hf2⟩
    rw [EL.out]
    have K2 : Hid (Keeps (fun k => k = bf ∨ k = gb ∨ k = ge) w w2) := KE.out.trans kb (fun _ h => .inr (.inr h)) (fun _ _ h => .inl h)
    have y6 := hf2.f.cellD 6 _ rfl
    simp only [] at y6
    have F2 := Lib.hid hf2
    have C2 : Hid (Bs w2 (some ⟨gb, a, none⟩) 1024 (capb - a) ((s.b.drop a).take 1024)) := by have := hf2.cut (i := a) (j := 1024) haN; rwa [EB.out] at this
    have P2 : Hid (Bs w2 pA pk.length pc pk) := ownBs (show Own w2 B (.slice pA pk.length pc) pk from hf2.p)
    clear kb hf2 KE F1 BRK ES BE
    go_wp2_with fail
    refine (half_any _ _ _ _ _ _ _ _ _ C2.out P2.out (by omega)).mono ?_
    rintro e w3 ⟨v3, rfl, o3, k3⟩
    obtain ⟨A3, c3, rfl, bs3, -⟩ := o3.shape
    have TL := halfN_len ((s.b.drop a).take 1024) pk
    rw [C2.out.len] at TL
    rw [TL] at bs3 ⊢
    have TT : Hid ((halfN ((s.b.drop a).take 1024) pk).take 1024 = halfN ((s.b.drop a).take 1024) pk) := List.take_of_length_le (by omega)
    have B3 := Lib.hid bs3
    have F3 := Lib.hid (F2.out.later k3)
    have K3 : Hid (Keeps (fun k => k = bf ∨ k = gb ∨ k = ge) w w3) := K2.out.trans k3 (fun _ h => h) (fun _ _ h => h.elim)
    clear o3 k3 bs3 TL
    go_wp2_with (with_reducible refine wpList_copy_bs (B := B) (g := gb) (off := a) (n := N) (cap := capb) rfl rfl rfl rfl (by first | (intro _; rfl) | (intro h0; omega)) F3.out.b B3.out (by omega) ?_)
    intro w4 o4 k4
    rw [TT.out, EB.out] at o4
    have F4 := F3.out.bytes k4 o4
    have K4 := Lib.hid k4
    have HF4 := Lib.hid F4
    clear o4 k4 F4
    go_wp2
    go_ret
    refine ⟨by rw [ER.out]; rfl, ⟨bf, gb, ge, N, capb, n, af2, pA, pc, pk⟩, ?_, (K3.out.trans K4.out (T := fun k => k = bf ∨ k = gb ∨ k = ge) (fun _ h => h) (fun _ _ h => .inr (.inl h))).mono (fun _ _ h => .inl h), rfl, rfl, fun _ h => .inl h⟩
    rw [ER.out]
    exact HF4.out
  · have EL : Hid (decide (s1.left = 0) = false) := by show decide (s1.left = 0) = false; rw [LFT.out]; exact decide_eq_false h0
    have ER : Hid (s.eraseF i = ({ s1.stepped with b := splice s.b a (List.replicate 1024 255) }, 0)) := by show _ = _; rw [EF.out, if_neg h0]
    have BL : Hid (∀ w, Calls Try.prog 21 #[.int .i64 1024] w (Cloned w (List.replicate 1024 255))) := fun w => blank_any 1024 w
    have BKL : Hid ((List.replicate 1024 (255 : Int)).length = 1024) := List.length_replicate
    generalize List.replicate 1024 (255 : Int) = bk at *
    clear EF h0
    go_enter Try.func55, Try.ntmps55
    go_wp2_with fail
    have KE : Hid (Keeps (fun k => k = ge) w (w.setCell ⟨ge, i, none⟩ (.int .i64 (x + 1)))) := (Keeps.self ge w).put i _
    have F1 := Lib.hid (ES.out _ KE.out (BE.out.set i _))
    refine (BRK.out _ F1.out).mono ?_
    rintro e w2 ⟨rfl, kb, af2, hf2⟩
    rw [EL.out]
    have K2 : Hid (Keeps (fun k => k = bf ∨ k = gb ∨ k = ge) w w2) := KE.out.trans kb (fun _ h => .inr (.inr h)) (fun _ _ h => .inl h)
    have F2 := Lib.hid hf2
    clear kb hf2 KE F1 BRK ES BE
    go_wp2_with fail
    refine (BL.out _).mono ?_
    rintro e w3 ⟨v3, rfl, o3, k3⟩
    obtain ⟨A3, c3, rfl, bs3, -⟩ := o3.shape
    rw [BKL.out] at bs3 ⊢
    have TT : Hid (bk.take 1024 = bk) := List.take_of_length_le (by rw [BKL.out]; exact Nat.le_refl _)
    have B3 := Lib.hid bs3
    have F3 := Lib.hid (F2.out.later k3)
    have K3 : Hid (Keeps (fun k => k = bf ∨ k = gb ∨ k = ge) w w3) := K2.out.trans k3 (fun _ h => h) (fun _ _ h => h.elim)
    clear o3 k3 bs3
    go_wp2_with (with_reducible refine wpList_copy_bs (B := B) (g := gb) (off := a) (n := N) (cap := capb) rfl rfl rfl rfl (by first | (intro _; rfl) | (intro h0; omega)) F3.out.b B3.out (by omega) ?_)
    intro w4 o4 k4
    rw [TT.out, EB.out] at o4
    have F4 := F3.out.bytes k4 o4
    have K4 := Lib.hid k4
    have HF4 := Lib.hid F4
    clear o4 k4 F4
    go_wp2
    go_ret
    refine ⟨by rw [ER.out]; rfl, ⟨bf, gb, ge, N, capb, n, af2, pA, pc, pk⟩, ?_, (K3.out.trans K4.out (T := fun k => k = bf ∨ k = gb ∨ k = ge) (fun _ h => h) (fun _ _ h => .inr (.inl h))).mono (fun _ _ h => .inl h), rfl, rfl, fun _ h => .inl h⟩
    rw [ER.out]
    exact HF4.out

theorem Try.infoI3 : (Try.prog.info? 3).map (fun i => (i.zero, i.size, i.bytes)) = some (some (.int .i64 0), 1, 8) := by kernel_rfl
/-- A flash that was made. -/
def Made (w : World) (n : Int) (e : Ending) (w' : World) : Prop := ∃ L, e = .returned (.pointer (some ⟨L.bf, 0, none⟩)) ∧ FAt w' w.heap.size L (newF n) ∧ L.n = (max 1 (min n 256)).toNat ∧ Keeps None w w'

theorem rep_add (a b : Nat) : List.replicate a (255 : Int) ++ List.replicate b 255 = List.replicate (a + b) 255 := by rw [List.replicate_append_replicate]
set_option maxRecDepth 100000 in
set_option maxHeartbeats 800000 in
theorem fnew_low (k : Int) (n : Nat) (w : World) (hn1 : 1 ≤ n) (hn2 : n ≤ 256) (hk : k ≤ 1) (hL : 1 = (n : Int)) (HN : Hid (newF k = { b := List.replicate (1024 * n) 255, er := List.replicate n 0, steps := 0, left := -1, pick := [], dark := false })) (HM : Hid (n = (max 1 (min k 256)).toNat)) : Calls Try.prog 7 #[.int .i64 k] w (Made w k) := by
  have hmk := fun w => run_make_blk (P := Try.prog) 23 3 (.int .i64 0) 8 Try.underlying23 Try.infoI3 rfl .i64 .i64 _ _ n hL hL (by omega) (by omega) w
  have BL : Hid (∀ w, Calls Try.prog 21 #[.int .i64 1024] w (Cloned w (List.replicate 1024 255))) := fun w => blank_any 1024 w
  have HL := Lib.hid hL
  clear hL
  go_enter Try.func7, Try.ntmps7
  go_wp2
  have e0 : (w.alloc (.cells (List.replicate n (Value.int .i64 0)).toArray 3)).heap.size = w.heap.size + 1 := by simp
  have BE0 : Hid (Blk ((w.alloc (.cells (List.replicate n (Value.int .i64 0)).toArray 3)).alloc (.cells #[.slice none 0 0, .slice (some ⟨w.heap.size, 0, none⟩) n n, .int .i64 0, .bool false, .bool false, .int .i64 0, .slice none 0 0] 46)) w.heap.size (List.replicate n (.int .i64 0)) 3) := (Blk.new w (List.replicate n (.int .i64 0)) 3).alloc _
  have BF0 : Hid (Blk ((w.alloc (.cells (List.replicate n (Value.int .i64 0)).toArray 3)).alloc (.cells #[.slice none 0 0, .slice (some ⟨w.heap.size, 0, none⟩) n n, .int .i64 0, .bool false, .bool false, .int .i64 0, .slice none 0 0] 46)) (w.heap.size + 1) [.slice none 0 0, .slice (some ⟨w.heap.size, 0, none⟩) n n, .int .i64 0, .bool false, .bool false, .int .i64 0, .slice none 0 0] 46) := by
    have := Blk.new (w.alloc (.cells (List.replicate n (Value.int .i64 0)).toArray 3)) [.slice none 0 0, .slice (some ⟨w.heap.size, 0, none⟩) n n, .int .i64 0, .bool false, .bool false, .int .i64 0, .slice none 0 0] 46
    rw [e0] at this
    exact this
  have K0 : Hid (Keeps None w ((w.alloc (.cells (List.replicate n (Value.int .i64 0)).toArray 3)).alloc (.cells #[.slice none 0 0, .slice (some ⟨w.heap.size, 0, none⟩) n n, .int .i64 0, .bool false, .bool false, .int .i64 0, .slice none 0 0] 46))) := ((Keeps.refl None w).alloc _).alloc _
  clear e0 hmk
  go_loopw [13] (fun iv wr => ∃ (j : Nat) (A : Option Addr) (c : Nat), j ≤ n ∧ iv = .int .i64 j ∧ Blk wr (w.heap.size + 1) [.slice A (1024 * j) c, .slice (some ⟨w.heap.size, 0, none⟩) n n, .int .i64 0, .bool false, .bool false, .int .i64 0, .slice none 0 0] 46 ∧ Blk wr w.heap.size (List.replicate n (.int .i64 0)) 3 ∧ Own wr (w.heap.size + 2) (.slice A (1024 * j) c) (List.replicate (1024 * j) 255) ∧ Keeps None w wr) (fun iv _ => n - (intOf iv).toNat)
  case atStart =>
    refine ⟨0, none, 0, Nat.zero_le _, rfl, ?_, ?_, Own.nil _ _, ?_⟩
    · simpa using BF0.out
    · simpa using BE0.out
    · simpa using K0.out
  case round =>
    obtain ⟨j, A, c, hj, rfl, hbf, hbe, hbo, hkp⟩ := hrel
    have HBF := Lib.hid hbf
    have HBE := Lib.hid hbe
    have HBO := Lib.hid hbo
    have HKP := Lib.hid hkp
    clear hbf hbe hbo hkp BE0 BF0 K0
    obtain ⟨wv, rfl⟩ : ∃ x, x = wr := ⟨_, rfl⟩
    by_cases hlt : j < n
    · have x1 : decide (j < n) = true := decide_eq_true hlt
      have x2 : decide ((j : Int) < 1) = true := decide_eq_true (by have := HL.out; omega)
      have E1 : Hid (1024 * j + 1024 = 1024 * (j + 1)) := by show 1024 * j + 1024 = 1024 * (j + 1); omega
      go_wp2
      obtain ⟨mS, mh⟩ : ∃ S : World → Prop, ∀ w', S w' ↔ (w'.cell? ⟨w.heap.size + 1, 0, none⟩ = some (.slice A (1024 * j) c)) := ⟨_, fun _ => Iff.rfl⟩
      have mk0 : ∀ x : Memb mS, x.at_.cell? ⟨w.heap.size + 1, 0, none⟩ = some (.slice A (1024 * j) c) := fun x => ((mh _).1 x.is)
      have mn : Nonempty (Memb mS) := ⟨⟨(wv).drew, (mh _).2 (HBF.out.cellD 0 _ rfl)⟩⟩
      have mH := Lib.hid mh
      clear mh
      refine wp_region_mix [5, 6, 9] (InS mS) (by kernel_rfl) (by kernel_rfl) (InS.mk ((mH.out _).2 (HBF.out.cellD 0 _ rfl))) ?_
      refine wpMix_seg 5 (by kernel_rfl) (by decide) ?_
      simp only [List.take_succ_cons, List.take_zero, List.drop_succ_cons, List.drop_zero]
      repeat (go_big_quiet_step (fail))
      refine wpQuiet_nil ?_
      refine wpMix_eff (by kernel_rfl) ?_
      go_wp2_with fail
      refine (BL.out _).mono ?_
      rintro e w3 ⟨v3, rfl, o3, k3⟩
      obtain ⟨A3, c3, rfl, bs3, -⟩ := o3.shape
      rw [List.length_replicate] at bs3 ⊢
      have B3 := Lib.hid bs3
      have BF3 := Lib.hid (k3.blk HBF.out.drew (fun h => h))
      have BE3 := Lib.hid (k3.blk HBE.out.drew (fun h => h))
      have BO3 := Lib.hid (HBO.out.drew.keeps k3 (fun _ _ h => h))
      have K3 := Lib.hid (HKP.out.drew.trans k3 (T := None) (fun _ h => h) (fun _ _ h => h))
      clear o3 bs3 k3
      go_wp2
      refine MixK.on (InS.mk ((mH.out _).2 (BF3.out.cellD 0 _ rfl))) ?_
      refine wpMix_eff (by kernel_rfl) ?_
      go_wp2_with (at_builtin; refine Hid.out ?_)
      refine Lib.hid ?_
      refine wpList_append_bs BO3.out B3.out (by rw [List.length_replicate]; omega) (Nat.succ_le_of_lt BF3.out.lt) rfl rfl rfl rfl rfl ?_
      intro v4 w4 ho4 hk4
      rw [rep_add, E1.out] at ho4
      obtain ⟨A4, c4, rfl, bs4, -⟩ := ho4.shape
      rw [List.length_replicate] at ho4 ⊢
      have O4 := Lib.hid ho4
      have BF4 := Lib.hid (hk4.blk BF3.out (fun e => BO3.out.notBelow (by omega) e))
      have BE4 := Lib.hid (hk4.blk BE3.out (fun e => BO3.out.notBelow (by omega) e))
      have K4 := Lib.hid (K3.out.trans hk4 (T := None) (fun _ h => h) (fun i hi e => absurd e (BO3.out.notBelow (by omega))))
      clear ho4 hk4 bs4 BF3 BE3 BO3 K3 B3
      have y0 := BF4.out.cellD 0 _ rfl
      have z0 := BF4.out.frozen 0
      go_wp2
      refine MixK.on (InS.mk ((mH.out _).2 (y0))) ?_
      refine wpMix_seg 2 (by kernel_rfl) (by decide) ?_
      simp only [List.take_succ_cons, List.take_zero, List.drop_succ_cons, List.drop_zero]
      repeat (go_big_quiet_step (fail))
      refine wpQuiet_nil ?_
      refine wpMix_eff (by kernel_rfl) ?_
      go_wp2
      refine MixK.last (by kernel_rfl) ?_
      refine wpMix_nil ?_
      clear mk0 mn mH
      have GN : Hid (w.heap.size + 1 < w.heap.size + 2) := Nat.lt_succ_self _
      have O5 := Lib.hid (O4.out.keeps ((Keeps.self (w.heap.size + 1) w4).put 0 (.slice A4 (1024 * (j + 1)) c4)) (fun b e h => O4.out.notBelow (i := b) (by subst h; exact GN.out) e))
      have BE5 := Lib.hid (BE4.out.setOther ⟨w.heap.size + 1, 0, none⟩ (.slice A4 (1024 * (j + 1)) c4) (Nat.ne_of_lt (Nat.lt_succ_self _)))
      have BF5 := Lib.hid (BF4.out.set 0 (.slice A4 (1024 * (j + 1)) c4))
      have K5 := Lib.hid (K4.out.setCell ⟨w.heap.size + 1, 0, none⟩ (.slice A4 (1024 * (j + 1)) c4) (fun h => absurd h (Nat.not_lt.2 (Nat.le_succ _))))
      clear O4 BF4 BE4 K4 y0 z0
      go_wp2
      go_roundw
      case rel => exact ⟨j + 1, A4, c4, hlt, by go_num, BF5.out, BE5.out, O5.out, K5.out⟩
      case measure => simp [intOf]; omega
    · obtain rfl : j = n := by omega
      have x2 : decide ((j : Int) < 1) = false := decide_eq_false (by have := HL.out; omega)
      obtain ⟨gb, rfl, hg1, -, -, hle, hmx, -, -⟩ := HBO.out.at_ (k := 0) (by omega)
      go_wp2
      go_ret
      refine ⟨⟨w.heap.size + 1, gb, w.heap.size, 1024 * j, c, j, 0, none, 0, []⟩, rfl, ?_, HM.out, HKP.out⟩
      rw [HN.out]
      exact ⟨HBF.out, HBO.out.lower (by omega), by simpa using HBE.out, Own.nil _ _, by simp, fun h => absurd h (show ¬ (0 : Int) ≤ -1 by decide), (show (-1 : Int) ≤ -1 by decide), (show (-1 : Int) ≤ 9223372036854775807 by decide), rfl, hn1, hn2, Nat.le_succ _, Nat.le_refl _, by show w.heap.size + 1 ≠ gb; omega, by show w.heap.size + 1 ≠ w.heap.size; omega, by show gb ≠ w.heap.size; omega, fun g hg => by cases hg⟩
set_option maxRecDepth 100000 in
set_option maxHeartbeats 800000 in
theorem fnew_high (k : Int) (n : Nat) (w : World) (hn1 : 1 ≤ n) (hn2 : n ≤ 256) (hk : 256 < k) (hL : 256 = (n : Int)) (HN : Hid (newF k = { b := List.replicate (1024 * n) 255, er := List.replicate n 0, steps := 0, left := -1, pick := [], dark := false })) (HM : Hid (n = (max 1 (min k 256)).toNat)) : Calls Try.prog 7 #[.int .i64 k] w (Made w k) := by
  have hmk := fun w => run_make_blk (P := Try.prog) 23 3 (.int .i64 0) 8 Try.underlying23 Try.infoI3 rfl .i64 .i64 _ _ n hL hL (by omega) (by omega) w
  have BL : Hid (∀ w, Calls Try.prog 21 #[.int .i64 1024] w (Cloned w (List.replicate 1024 255))) := fun w => blank_any 1024 w
  have HL := Lib.hid hL
  clear hL
  go_enter Try.func7, Try.ntmps7
  go_wp2
  have e0 : (w.alloc (.cells (List.replicate n (Value.int .i64 0)).toArray 3)).heap.size = w.heap.size + 1 := by simp
  have BE0 : Hid (Blk ((w.alloc (.cells (List.replicate n (Value.int .i64 0)).toArray 3)).alloc (.cells #[.slice none 0 0, .slice (some ⟨w.heap.size, 0, none⟩) n n, .int .i64 0, .bool false, .bool false, .int .i64 0, .slice none 0 0] 46)) w.heap.size (List.replicate n (.int .i64 0)) 3) := (Blk.new w (List.replicate n (.int .i64 0)) 3).alloc _
  have BF0 : Hid (Blk ((w.alloc (.cells (List.replicate n (Value.int .i64 0)).toArray 3)).alloc (.cells #[.slice none 0 0, .slice (some ⟨w.heap.size, 0, none⟩) n n, .int .i64 0, .bool false, .bool false, .int .i64 0, .slice none 0 0] 46)) (w.heap.size + 1) [.slice none 0 0, .slice (some ⟨w.heap.size, 0, none⟩) n n, .int .i64 0, .bool false, .bool false, .int .i64 0, .slice none 0 0] 46) := by
    have := Blk.new (w.alloc (.cells (List.replicate n (Value.int .i64 0)).toArray 3)) [.slice none 0 0, .slice (some ⟨w.heap.size, 0, none⟩) n n, .int .i64 0, .bool false, .bool false, .int .i64 0, .slice none 0 0] 46
    rw [e0] at this
    exact this
  have K0 : Hid (Keeps None w ((w.alloc (.cells (List.replicate n (Value.int .i64 0)).toArray 3)).alloc (.cells #[.slice none 0 0, .slice (some ⟨w.heap.size, 0, none⟩) n n, .int .i64 0, .bool false, .bool false, .int .i64 0, .slice none 0 0] 46))) := ((Keeps.refl None w).alloc _).alloc _
  clear e0 hmk
  go_loopw [13] (fun iv wr => ∃ (j : Nat) (A : Option Addr) (c : Nat), j ≤ n ∧ iv = .int .i64 j ∧ Blk wr (w.heap.size + 1) [.slice A (1024 * j) c, .slice (some ⟨w.heap.size, 0, none⟩) n n, .int .i64 0, .bool false, .bool false, .int .i64 0, .slice none 0 0] 46 ∧ Blk wr w.heap.size (List.replicate n (.int .i64 0)) 3 ∧ Own wr (w.heap.size + 2) (.slice A (1024 * j) c) (List.replicate (1024 * j) 255) ∧ Keeps None w wr) (fun iv _ => n - (intOf iv).toNat)
  case atStart =>
    refine ⟨0, none, 0, Nat.zero_le _, rfl, ?_, ?_, Own.nil _ _, ?_⟩
    · simpa using BF0.out
    · simpa using BE0.out
    · simpa using K0.out
  case round =>
    obtain ⟨j, A, c, hj, rfl, hbf, hbe, hbo, hkp⟩ := hrel
    have HBF := Lib.hid hbf
    have HBE := Lib.hid hbe
    have HBO := Lib.hid hbo
    have HKP := Lib.hid hkp
    clear hbf hbe hbo hkp BE0 BF0 K0
    obtain ⟨wv, rfl⟩ : ∃ x, x = wr := ⟨_, rfl⟩
    by_cases hlt : j < n
    · have x1 : decide (j < n) = true := decide_eq_true hlt
      have x2 : decide ((j : Int) < 256) = true := decide_eq_true (by have := HL.out; omega)
      have E1 : Hid (1024 * j + 1024 = 1024 * (j + 1)) := by show 1024 * j + 1024 = 1024 * (j + 1); omega
      go_wp2
      obtain ⟨mS, mh⟩ : ∃ S : World → Prop, ∀ w', S w' ↔ (w'.cell? ⟨w.heap.size + 1, 0, none⟩ = some (.slice A (1024 * j) c)) := ⟨_, fun _ => Iff.rfl⟩
      have mk0 : ∀ x : Memb mS, x.at_.cell? ⟨w.heap.size + 1, 0, none⟩ = some (.slice A (1024 * j) c) := fun x => ((mh _).1 x.is)
      have mn : Nonempty (Memb mS) := ⟨⟨(wv).drew, (mh _).2 (HBF.out.cellD 0 _ rfl)⟩⟩
      have mH := Lib.hid mh
      clear mh
      refine wp_region_mix [5, 6, 9] (InS mS) (by kernel_rfl) (by kernel_rfl) (InS.mk ((mH.out _).2 (HBF.out.cellD 0 _ rfl))) ?_
      refine wpMix_seg 5 (by kernel_rfl) (by decide) ?_
      simp only [List.take_succ_cons, List.take_zero, List.drop_succ_cons, List.drop_zero]
      repeat (go_big_quiet_step (fail))
      refine wpQuiet_nil ?_
      refine wpMix_eff (by kernel_rfl) ?_
      go_wp2_with fail
      refine (BL.out _).mono ?_
      rintro e w3 ⟨v3, rfl, o3, k3⟩
      obtain ⟨A3, c3, rfl, bs3, -⟩ := o3.shape
      rw [List.length_replicate] at bs3 ⊢
      have B3 := Lib.hid bs3
      have BF3 := Lib.hid (k3.blk HBF.out.drew (fun h => h))
      have BE3 := Lib.hid (k3.blk HBE.out.drew (fun h => h))
      have BO3 := Lib.hid (HBO.out.drew.keeps k3 (fun _ _ h => h))
      have K3 := Lib.hid (HKP.out.drew.trans k3 (T := None) (fun _ h => h) (fun _ _ h => h))
      clear o3 bs3 k3
      go_wp2
      refine MixK.on (InS.mk ((mH.out _).2 (BF3.out.cellD 0 _ rfl))) ?_
      refine wpMix_eff (by kernel_rfl) ?_
      go_wp2_with (at_builtin; refine Hid.out ?_)
      refine Lib.hid ?_
      refine wpList_append_bs BO3.out B3.out (by rw [List.length_replicate]; omega) (Nat.succ_le_of_lt BF3.out.lt) rfl rfl rfl rfl rfl ?_
      intro v4 w4 ho4 hk4
      rw [rep_add, E1.out] at ho4
      obtain ⟨A4, c4, rfl, bs4, -⟩ := ho4.shape
      rw [List.length_replicate] at ho4 ⊢
      have O4 := Lib.hid ho4
      have BF4 := Lib.hid (hk4.blk BF3.out (fun e => BO3.out.notBelow (by omega) e))
      have BE4 := Lib.hid (hk4.blk BE3.out (fun e => BO3.out.notBelow (by omega) e))
      have K4 := Lib.hid (K3.out.trans hk4 (T := None) (fun _ h => h) (fun i hi e => absurd e (BO3.out.notBelow (by omega))))
      clear ho4 hk4 bs4 BF3 BE3 BO3 K3 B3
      have y0 := BF4.out.cellD 0 _ rfl
      have z0 := BF4.out.frozen 0
      go_wp2
      refine MixK.on (InS.mk ((mH.out _).2 (y0))) ?_
      refine wpMix_seg 2 (by kernel_rfl) (by decide) ?_
      simp only [List.take_succ_cons, List.take_zero, List.drop_succ_cons, List.drop_zero]
      repeat (go_big_quiet_step (fail))
      refine wpQuiet_nil ?_
      refine wpMix_eff (by kernel_rfl) ?_
      go_wp2
      refine MixK.last (by kernel_rfl) ?_
      refine wpMix_nil ?_
      clear mk0 mn mH
      have GN : Hid (w.heap.size + 1 < w.heap.size + 2) := Nat.lt_succ_self _
      have O5 := Lib.hid (O4.out.keeps ((Keeps.self (w.heap.size + 1) w4).put 0 (.slice A4 (1024 * (j + 1)) c4)) (fun b e h => O4.out.notBelow (i := b) (by subst h; exact GN.out) e))
      have BE5 := Lib.hid (BE4.out.setOther ⟨w.heap.size + 1, 0, none⟩ (.slice A4 (1024 * (j + 1)) c4) (Nat.ne_of_lt (Nat.lt_succ_self _)))
      have BF5 := Lib.hid (BF4.out.set 0 (.slice A4 (1024 * (j + 1)) c4))
      have K5 := Lib.hid (K4.out.setCell ⟨w.heap.size + 1, 0, none⟩ (.slice A4 (1024 * (j + 1)) c4) (fun h => absurd h (Nat.not_lt.2 (Nat.le_succ _))))
      clear O4 BF4 BE4 K4 y0 z0
      go_wp2
      go_roundw
      case rel => exact ⟨j + 1, A4, c4, hlt, by go_num, BF5.out, BE5.out, O5.out, K5.out⟩
      case measure => simp [intOf]; omega
    · obtain rfl : j = n := by omega
      have x2 : decide ((j : Int) < 256) = false := decide_eq_false (by have := HL.out; omega)
      obtain ⟨gb, rfl, hg1, -, -, hle, hmx, -, -⟩ := HBO.out.at_ (k := 0) (by omega)
      go_wp2
      go_ret
      refine ⟨⟨w.heap.size + 1, gb, w.heap.size, 1024 * j, c, j, 0, none, 0, []⟩, rfl, ?_, HM.out, HKP.out⟩
      rw [HN.out]
      exact ⟨HBF.out, HBO.out.lower (by omega), by simpa using HBE.out, Own.nil _ _, by simp, fun h => absurd h (show ¬ (0 : Int) ≤ -1 by decide), (show (-1 : Int) ≤ -1 by decide), (show (-1 : Int) ≤ 9223372036854775807 by decide), rfl, hn1, hn2, Nat.le_succ _, Nat.le_refl _, by show w.heap.size + 1 ≠ gb; omega, by show w.heap.size + 1 ≠ w.heap.size; omega, by show gb ≠ w.heap.size; omega, fun g hg => by cases hg⟩
set_option maxRecDepth 100000 in
set_option maxHeartbeats 800000 in
theorem fnew_mid (k : Int) (n : Nat) (w : World) (hn1 : 1 ≤ n) (hn2 : n ≤ 256) (hk : 1 < k ∧ k ≤ 256) (hL : k = (n : Int)) (HN : Hid (newF k = { b := List.replicate (1024 * n) 255, er := List.replicate n 0, steps := 0, left := -1, pick := [], dark := false })) (HM : Hid (n = (max 1 (min k 256)).toNat)) : Calls Try.prog 7 #[.int .i64 k] w (Made w k) := by
  have hmk := fun w => run_make_blk (P := Try.prog) 23 3 (.int .i64 0) 8 Try.underlying23 Try.infoI3 rfl .i64 .i64 _ _ n hL hL (by omega) (by omega) w
  have BL : Hid (∀ w, Calls Try.prog 21 #[.int .i64 1024] w (Cloned w (List.replicate 1024 255))) := fun w => blank_any 1024 w
  have HL := Lib.hid hL
  clear hL
  go_enter Try.func7, Try.ntmps7
  go_wp2
  have e0 : (w.alloc (.cells (List.replicate n (Value.int .i64 0)).toArray 3)).heap.size = w.heap.size + 1 := by simp
  have BE0 : Hid (Blk ((w.alloc (.cells (List.replicate n (Value.int .i64 0)).toArray 3)).alloc (.cells #[.slice none 0 0, .slice (some ⟨w.heap.size, 0, none⟩) n n, .int .i64 0, .bool false, .bool false, .int .i64 0, .slice none 0 0] 46)) w.heap.size (List.replicate n (.int .i64 0)) 3) := (Blk.new w (List.replicate n (.int .i64 0)) 3).alloc _
  have BF0 : Hid (Blk ((w.alloc (.cells (List.replicate n (Value.int .i64 0)).toArray 3)).alloc (.cells #[.slice none 0 0, .slice (some ⟨w.heap.size, 0, none⟩) n n, .int .i64 0, .bool false, .bool false, .int .i64 0, .slice none 0 0] 46)) (w.heap.size + 1) [.slice none 0 0, .slice (some ⟨w.heap.size, 0, none⟩) n n, .int .i64 0, .bool false, .bool false, .int .i64 0, .slice none 0 0] 46) := by
    have := Blk.new (w.alloc (.cells (List.replicate n (Value.int .i64 0)).toArray 3)) [.slice none 0 0, .slice (some ⟨w.heap.size, 0, none⟩) n n, .int .i64 0, .bool false, .bool false, .int .i64 0, .slice none 0 0] 46
    rw [e0] at this
    exact this
  have K0 : Hid (Keeps None w ((w.alloc (.cells (List.replicate n (Value.int .i64 0)).toArray 3)).alloc (.cells #[.slice none 0 0, .slice (some ⟨w.heap.size, 0, none⟩) n n, .int .i64 0, .bool false, .bool false, .int .i64 0, .slice none 0 0] 46))) := ((Keeps.refl None w).alloc _).alloc _
  clear e0 hmk
  go_loopw [13] (fun iv wr => ∃ (j : Nat) (A : Option Addr) (c : Nat), j ≤ n ∧ iv = .int .i64 j ∧ Blk wr (w.heap.size + 1) [.slice A (1024 * j) c, .slice (some ⟨w.heap.size, 0, none⟩) n n, .int .i64 0, .bool false, .bool false, .int .i64 0, .slice none 0 0] 46 ∧ Blk wr w.heap.size (List.replicate n (.int .i64 0)) 3 ∧ Own wr (w.heap.size + 2) (.slice A (1024 * j) c) (List.replicate (1024 * j) 255) ∧ Keeps None w wr) (fun iv _ => n - (intOf iv).toNat)
  case atStart =>
    refine ⟨0, none, 0, Nat.zero_le _, rfl, ?_, ?_, Own.nil _ _, ?_⟩
    · simpa using BF0.out
    · simpa using BE0.out
    · simpa using K0.out
  case round =>
    obtain ⟨j, A, c, hj, rfl, hbf, hbe, hbo, hkp⟩ := hrel
    have HBF := Lib.hid hbf
    have HBE := Lib.hid hbe
    have HBO := Lib.hid hbo
    have HKP := Lib.hid hkp
    clear hbf hbe hbo hkp BE0 BF0 K0
    obtain ⟨wv, rfl⟩ : ∃ x, x = wr := ⟨_, rfl⟩
    by_cases hlt : j < n
    · have x1 : decide (j < n) = true := decide_eq_true hlt
      have x2 : decide ((j : Int) < k) = true := decide_eq_true (by have := HL.out; omega)
      have E1 : Hid (1024 * j + 1024 = 1024 * (j + 1)) := by show 1024 * j + 1024 = 1024 * (j + 1); omega
      go_wp2
      obtain ⟨mS, mh⟩ : ∃ S : World → Prop, ∀ w', S w' ↔ (w'.cell? ⟨w.heap.size + 1, 0, none⟩ = some (.slice A (1024 * j) c)) := ⟨_, fun _ => Iff.rfl⟩
      have mk0 : ∀ x : Memb mS, x.at_.cell? ⟨w.heap.size + 1, 0, none⟩ = some (.slice A (1024 * j) c) := fun x => ((mh _).1 x.is)
      have mn : Nonempty (Memb mS) := ⟨⟨(wv).drew, (mh _).2 (HBF.out.cellD 0 _ rfl)⟩⟩
      have mH := Lib.hid mh
      clear mh
      refine wp_region_mix [5, 6, 9] (InS mS) (by kernel_rfl) (by kernel_rfl) (InS.mk ((mH.out _).2 (HBF.out.cellD 0 _ rfl))) ?_
      refine wpMix_seg 5 (by kernel_rfl) (by decide) ?_
      simp only [List.take_succ_cons, List.take_zero, List.drop_succ_cons, List.drop_zero]
      repeat (go_big_quiet_step (fail))
      refine wpQuiet_nil ?_
      refine wpMix_eff (by kernel_rfl) ?_
      go_wp2_with fail
      refine (BL.out _).mono ?_
      rintro e w3 ⟨v3, rfl, o3, k3⟩
      obtain ⟨A3, c3, rfl, bs3, -⟩ := o3.shape
      rw [List.length_replicate] at bs3 ⊢
      have B3 := Lib.hid bs3
      have BF3 := Lib.hid (k3.blk HBF.out.drew (fun h => h))
      have BE3 := Lib.hid (k3.blk HBE.out.drew (fun h => h))
      have BO3 := Lib.hid (HBO.out.drew.keeps k3 (fun _ _ h => h))
      have K3 := Lib.hid (HKP.out.drew.trans k3 (T := None) (fun _ h => h) (fun _ _ h => h))
      clear o3 bs3 k3
      go_wp2
      refine MixK.on (InS.mk ((mH.out _).2 (BF3.out.cellD 0 _ rfl))) ?_
      refine wpMix_eff (by kernel_rfl) ?_
      go_wp2_with (at_builtin; refine Hid.out ?_)
      refine Lib.hid ?_
      refine wpList_append_bs BO3.out B3.out (by rw [List.length_replicate]; omega) (Nat.succ_le_of_lt BF3.out.lt) rfl rfl rfl rfl rfl ?_
      intro v4 w4 ho4 hk4
      rw [rep_add, E1.out] at ho4
      obtain ⟨A4, c4, rfl, bs4, -⟩ := ho4.shape
      rw [List.length_replicate] at ho4 ⊢
      have O4 := Lib.hid ho4
      have BF4 := Lib.hid (hk4.blk BF3.out (fun e => BO3.out.notBelow (by omega) e))
      have BE4 := Lib.hid (hk4.blk BE3.out (fun e => BO3.out.notBelow (by omega) e))
      have K4 := Lib.hid (K3.out.trans hk4 (T := None) (fun _ h => h) (fun i hi e => absurd e (BO3.out.notBelow (by omega))))
      clear ho4 hk4 bs4 BF3 BE3 BO3 K3 B3
      have y0 := BF4.out.cellD 0 _ rfl
      have z0 := BF4.out.frozen 0
      go_wp2
      refine MixK.on (InS.mk ((mH.out _).2 (y0))) ?_
      refine wpMix_seg 2 (by kernel_rfl) (by decide) ?_
      simp only [List.take_succ_cons, List.take_zero, List.drop_succ_cons, List.drop_zero]
      repeat (go_big_quiet_step (fail))
      refine wpQuiet_nil ?_
      refine wpMix_eff (by kernel_rfl) ?_
      go_wp2
      refine MixK.last (by kernel_rfl) ?_
      refine wpMix_nil ?_
      clear mk0 mn mH
      have GN : Hid (w.heap.size + 1 < w.heap.size + 2) := Nat.lt_succ_self _
      have O5 := Lib.hid (O4.out.keeps ((Keeps.self (w.heap.size + 1) w4).put 0 (.slice A4 (1024 * (j + 1)) c4)) (fun b e h => O4.out.notBelow (i := b) (by subst h; exact GN.out) e))
      have BE5 := Lib.hid (BE4.out.setOther ⟨w.heap.size + 1, 0, none⟩ (.slice A4 (1024 * (j + 1)) c4) (Nat.ne_of_lt (Nat.lt_succ_self _)))
      have BF5 := Lib.hid (BF4.out.set 0 (.slice A4 (1024 * (j + 1)) c4))
      have K5 := Lib.hid (K4.out.setCell ⟨w.heap.size + 1, 0, none⟩ (.slice A4 (1024 * (j + 1)) c4) (fun h => absurd h (Nat.not_lt.2 (Nat.le_succ _))))
      clear O4 BF4 BE4 K4 y0 z0
      go_wp2
      go_roundw
      case rel => exact ⟨j + 1, A4, c4, hlt, by go_num, BF5.out, BE5.out, O5.out, K5.out⟩
      case measure => simp [intOf]; omega
    · obtain rfl : j = n := by omega
      have x2 : decide ((j : Int) < k) = false := decide_eq_false (by have := HL.out; omega)
      obtain ⟨gb, rfl, hg1, -, -, hle, hmx, -, -⟩ := HBO.out.at_ (k := 0) (by omega)
      go_wp2
      go_ret
      refine ⟨⟨w.heap.size + 1, gb, w.heap.size, 1024 * j, c, j, 0, none, 0, []⟩, rfl, ?_, HM.out, HKP.out⟩
      rw [HN.out]
      exact ⟨HBF.out, HBO.out.lower (by omega), by simpa using HBE.out, Own.nil _ _, by simp, fun h => absurd h (show ¬ (0 : Int) ≤ -1 by decide), (show (-1 : Int) ≤ -1 by decide), (show (-1 : Int) ≤ 9223372036854775807 by decide), rfl, hn1, hn2, Nat.le_succ _, Nat.le_refl _, by show w.heap.size + 1 ≠ gb; omega, by show w.heap.size + 1 ≠ w.heap.size; omega, by show gb ≠ w.heap.size; omega, fun g hg => by cases hg⟩
theorem fnew_any (k : Int) (w : World) : Calls Try.prog 7 #[.int .i64 k] w (Made w k) := by
  have HN : ∀ n : Nat, (max 1 (min k 256)).toNat = n → Hid (newF k = { b := List.replicate (1024 * n) 255, er := List.replicate n 0, steps := 0, left := -1, pick := [], dark := false }) := fun n hn => by
    show newF k = _
    unfold newF; rw [hn]
  by_cases h1 : k ≤ 1
  · have e : (max 1 (min k 256)).toNat = 1 := by omega
    exact fnew_low k 1 w (by decide) (by decide) h1 rfl (HN 1 e) e.symm
  · by_cases h2 : 256 < k
    · have e : (max 1 (min k 256)).toNat = 256 := by omega
      exact fnew_high k 256 w (by decide) (by decide) h2 rfl (HN 256 e) e.symm
    · have e : (max 1 (min k 256)).toNat = k.toNat := by omega
      exact fnew_mid k k.toNat w (by omega) (by omega) ⟨by omega, by omega⟩ (by omega) (HN _ e) e.symm
end Go.Proofs.Ytgehkioneelgcaa
