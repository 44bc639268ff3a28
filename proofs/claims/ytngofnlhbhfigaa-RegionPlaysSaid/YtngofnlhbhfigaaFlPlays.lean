/-
  For every number of sectors and every row of calls, the law FlashPlays returns true: what the calls answer, the content, the steps and the erasures agree with the definition. No condition.
-/
import Derived.Test.YtngofnlhbhfigaaFlDo
import Derived.Test.YtngofnlhbhfigaaActs
import Derived.Test.YtngofnlhbhfigaaMix2
import Derived.Test.YtngofnlhbhfigaaKcW
import Derived.Test.YtngofnlhbhfigaaInit
namespace Go.Proofs.Ytngofnlhbhfigaa
open Go.RowKit Go.ChangeShapes Go.WideShapes Go.ChangeAt Go.Deep

section
variable {W w w' : World} {B q : Nat} {L L' : FL} {s s' : FS} {Br qr : Nat} {Lr Lr' : RL} {r r' : FS}
theorem FR.dk (h : FR W w B q L s Br qr Lr r) (hs : Sim s r) : w.cell? ⟨qr, 5, none⟩ = some (.bool s.dark) := by rw [← h.gq, ← hs.dark]; exact h.g.f.cellD 5 _ rfl
theorem FR.st (h : FR W w B q L s Br qr Lr r) (hs : Sim s r) : w.cell? ⟨qr, 2, none⟩ = some (.int .i64 s.steps) := by rw [← h.gq, ← hs.steps]; exact h.g.f.cellD 2 _ rfl
theorem FR.bb (h : FR W w B q L s Br qr Lr r) (hs : Sim s r) : w.cell? ⟨qr, 0, none⟩ = some (.slice (some ⟨Lr.gb, 0, none⟩) s.b.length Lr.capb) ∧ Bs w (some ⟨Lr.gb, 0, none⟩) s.b.length Lr.capb s.b := by
  have hl : Lr.N = s.b.length := by rw [← h.g.bl, hs.b]
  have hb := h.g.bs
  rw [hl, hs.b] at hb
  refine ⟨?_, hb⟩
  rw [← h.gq, ← hl]; exact h.g.f.cellD 0 _ rfl
theorem FR.ee (h : FR W w B q L s Br qr Lr r) : w.cell? ⟨qr, 1, none⟩ = some (.slice (some ⟨Lr.ge, 0, none⟩) Lr.n Lr.n) := by rw [← h.gq]; exact h.g.f.cellD 1 _ rfl
end
theorem newF_er0 (k : Int) (x : Nat) : (newF k).er.getD x 0 = 0 := by
  unfold newF
  show (List.replicate _ (0 : Int)).getD x 0 = 0
  by_cases h : x < (max 1 (min k 256)).toNat
  · rw [getD_get 0 (by simpa using h), List.getElem_replicate]
  · rw [List.getD, List.getElem?_eq_none (by simpa using h)]; rfl
theorem newF_roomK (k : Int) : Room (newF k) 100000000 := ⟨⟨Int.le_refl _, (show (0 : Int) + ((100000000 : Nat) : Int) ≤ 1000000000000 by decide)⟩, fun i => by rw [newF_er0]; decide⟩
/-- Both flashes, new. -/
theorem FR.made {W w1 w2 w3 : World} {q : Nat} {L : FL} {Lr : RL} {k : Int} (hf : LF W w2 w1.heap.size q L (newF k)) (h1 : Keeps None W w2) (hg : RAt w3 w2.heap.size Lr (newF k)) (h3 : Keeps None w2 w3) : FR W w3 w1.heap.size q L (newF k) w2.heap.size Lr.bf Lr (newF k) :=
  ⟨hf.later h3, hg, rfl, h1.size, fun k hk hr => by have a := hf.at_.lt k hk; have b := hg.low k hr; omega⟩

set_option maxRecDepth 100000 in
set_option maxHeartbeats 3200000 in
theorem plays2_any (sectors : Int) (A : Option Addr) (m cap : Nat) (xs : List Value) (F : Nat → Ac) (W : World) (h : ActsAt W A m cap xs F) :
    Calls Try.prog 5 #[.int .i64 sectors, .slice A m cap] W fun e w' => e = .returned (.bool true) ∧ Below W.heap.size W w' := by
  have FEW := Lib.hid (fun w hk => few2_any A m cap xs F W w h hk)
  have m1 := h.sl.2.1
  have m2 := h.sl.2.2.1
  cases hfw : fewB m F with
  | false =>
    rw [hfw] at FEW
    clear hfw h
    go_enter Try.func5, Try.ntmps5
    go_wp2_with fail
    refine (alive2_any W).mono ?_
    rintro e w1 ⟨rfl, K1⟩
    go_wp2_with fail
    refine (FEW.out _ K1).mono ?_
    rintro e w' ⟨rfl, rfl⟩
    go_wp2
    go_ret
    exact ⟨rfl, K1.below (fun _ _ h => h)⟩
  | true =>
  rw [hfw] at FEW
  obtain ⟨f1a, f1b⟩ := fewB_yes hfw
  have FB := Lib.hid f1b
  clear hfw f1b
  by_cases g1 : 6 < sectors
  · have d1 : decide (6 < sectors) = true := decide_eq_true g1
    clear h
    go_enter Try.func5, Try.ntmps5
    go_wp2_with fail
    refine (alive2_any W).mono ?_
    rintro e w1 ⟨rfl, K1⟩
    go_wp2_with fail
    refine (FEW.out _ K1).mono ?_
    rintro e w' ⟨rfl, rfl⟩
    go_wp2
    go_ret
    exact ⟨rfl, K1.below (fun _ _ h => h)⟩
  have d1 : decide (6 < sectors) = false := decide_eq_false g1
  have HAC := Lib.hid h
  have RM := Lib.hid (newF_roomK sectors)
  have NW := Lib.hid (fun w (hk : Keeps None W w) => lnew hk sectors)
  have NR := Lib.hid (fun w => rfnew_any sectors w)
  have MK := Lib.hid (fun (w1 w2 w3 : World) q L Lr hf h1 hg h3 => FR.made (W := W) (w1 := w1) (w2 := w2) (w3 := w3) (q := q) (L := L) (Lr := Lr) (k := sectors) hf h1 hg h3)
  unfold RMade at NR
  generalize newF sectors = f0 at *
  clear h
  go_enter Try.func5, Try.ntmps5
  go_wp2_with fail
  refine (alive2_any W).mono ?_
  rintro e w1 ⟨rfl, K1⟩
  go_wp2_with fail
  refine (FEW.out _ K1).mono ?_
  rintro e w' ⟨rfl, rfl⟩
  have HK1 := Lib.hid K1
  clear K1
  go_wp2_with fail
  refine (NW.out _ HK1.out).mono ?_
  rintro e w2 ⟨q, L, rfl, hF⟩
  have HF := Lib.hid hF
  clear hF NW
  go_wp2_with fail
  refine (NR.out _).mono ?_
  rintro e w3 ⟨Lr, rfl, hg, -, k3⟩
  have H3 := Lib.hid (MK.out w1 w2 w3 q L Lr HF.out HF.out.keeps hg k3)
  clear hg k3 HF MK NR
  generalize Lr.bf = qr at *
  generalize w1.heap.size = B0 at *
  generalize w2.heap.size = B1 at *
  go_wp2
  go_loopw [8] (fun iv wr => ∃ (j : Nat) (s : FS) (L : FL) (r : FS) (Lr : RL), j ≤ m ∧ iv = .int .i64 j ∧ FR W wr B0 q L s B1 qr Lr r ∧ Sim s r ∧ Room s ((m - j) * 1101)) (fun iv _ => m - (intOf iv).toNat)
  case atStart => exact ⟨0, f0, L, f0, Lr, Nat.zero_le _, rfl, H3.out, Sim.self f0, RM.out.less (by omega)⟩
  case round =>
    obtain ⟨j, s, L, r, Lr, hj, rfl, hF, hS, hR⟩ := hrel
    have HF := Lib.hid hF
    have HS := Lib.hid hS
    have HR := Lib.hid hR
    clear hF hS hR H3 RM
    by_cases hlt : j < m
    · obtain ⟨b, off, rfl, y0, y1, y2, y3, -⟩ := HAC.out.cells HF.out.keeps hlt
      have DO := Lib.hid (fun w' (hw : FR W w' B0 q L s B1 qr Lr r) => do2_any hw HS.out ((m - (j + 1)) * 1101) (HR.out.less (by omega)) (F j).k (F j).a (F j).n (F j).A (F j).l (F j).c (F j).zs (HAC.out.at_ j hlt).b (FB.out j hlt) (HAC.out.at_ j hlt).nb)
      have YY := Lib.hid (fun w' (hk : Keeps None W w') => HAC.out.cells hk hlt)
      generalize (F j).k = fk at *
      generalize (F j).a = fa at *
      generalize (F j).n = fn at *
      generalize (F j).A = fA at *
      generalize (F j).l = fl at *
      generalize (F j).c = fc at *
      obtain ⟨wv, rfl⟩ : ∃ x, x = wr := ⟨_, rfl⟩
      go_wp2
      obtain ⟨m2S, m2h⟩ : ∃ S : World → Prop, ∀ w', S w' ↔ (True) := ⟨_, fun _ => Iff.rfl⟩
      have m2n : Nonempty (Memb m2S) := ⟨⟨(wv).drew, (m2h _).2 trivial⟩⟩
      have m2H := Lib.hid m2h
      clear m2h
      refine wp_region_mix2 [5, 6, 10, 19] (InS m2S) (by kernel_rfl) (by kernel_rfl) (InS.mk ((m2H.out _).2 trivial)) ?_
      refine wpMix2_seg 5 (InS m2S) (by kernel_rfl) (by decide) (cl_base [] rfl (by kernel_rfl)) ?_
      simp only [List.take_succ_cons, List.take_zero, List.drop_succ_cons, List.drop_zero]
      repeat (go_big_quiet_step (fail))
      refine wpQuiet_nil ?_
      refine wpMix2_eff (by kernel_rfl) ?_
      go_wp2
      refine MixK2.on (cls_base (InS.mk ((m2H.out _).2 trivial))) ?_
      refine wpMix2_eff (by kernel_rfl) ?_
      go_wp2_with fail
      refine (DO.out _ HF.out.drew).mono ?_
      rintro e w4 ⟨rfl, L4, s4, Lr4, r4, h4, i4, rm4, -⟩
      have H4 := Lib.hid h4
      have S4 := Lib.hid i4
      have R4 := Lib.hid rm4
      clear h4 i4 rm4
      obtain ⟨d4, hd4⟩ : ∃ d, s4.dark = d := ⟨_, rfl⟩
      obtain ⟨t4, ht4⟩ : ∃ d, s4.steps = d := ⟨_, rfl⟩
      have dk4 := H4.out.dk S4.out
      have sk4 := H4.out.st S4.out
      have OF := Lib.hid (loff H4.out.f)
      have SP := Lib.hid (lsteps H4.out.f)
      rw [hd4] at dk4 OF
      rw [ht4] at sk4 SP
      have DK4 := Lib.hid dk4
      have SK4 := Lib.hid sk4
      have qd4 : (d4 != d4) = false := by simp
      clear hd4 ht4 dk4 sk4
      go_wp2
      obtain ⟨m2L14S, m2L14h⟩ : ∃ S : World → Prop, ∀ w', S w' ↔ ((w'.cell? ⟨qr, 5, none⟩ = some (.bool d4))) := ⟨_, fun _ => Iff.rfl⟩
      have m2L14k0 : ∀ x : Memb m2L14S, x.at_.cell? ⟨qr, 5, none⟩ = some (.bool d4) := fun x => ((m2L14h _).1 x.is)
      have m2L14n : Nonempty (Memb m2L14S) := ⟨⟨_, (m2L14h _).2 (DK4.out)⟩⟩
      have m2L14H := Lib.hid m2L14h
      clear m2L14h
      refine MixK2.late (D := InS m2L14S) (x := 14) (by kernel_rfl) (cls_cons (InS.mk ((m2L14H.out _).2 (DK4.out))) (cls_base (InS.mk ((m2H.out _).2 trivial)))) ?_
      refine wpMix2_seg 3 (InS m2S) (by kernel_rfl) (by decide) (cl_base [14] rfl (by kernel_rfl)) ?_
      simp only [List.take_succ_cons, List.take_zero, List.drop_succ_cons, List.drop_zero]
      repeat (first | go_big_quiet_step (fail) | (go_big_quiet_want; first | refine quiet_conv m2L14k0 rfl rfl rfl (by simp only [Act.put, List.setIfInBounds_toArray, List.set_cons_succ, List.set_cons_zero]; rfl) ?_; go_big_quiet_on))
      refine wpQuiet_nil ?_
      refine wpMix2_eff (by kernel_rfl) ?_
      go_wp2_with fail
      refine OF.out.mono ?_
      rintro e w' ⟨rfl, rfl⟩
      go_wp2
      obtain ⟨m2L23S, m2L23h⟩ : ∃ S : World → Prop, ∀ w', S w' ↔ ((w'.cell? ⟨qr, 2, none⟩ = some (.int .i64 t4))) := ⟨_, fun _ => Iff.rfl⟩
      have m2L23k0 : ∀ x : Memb m2L23S, x.at_.cell? ⟨qr, 2, none⟩ = some (.int .i64 t4) := fun x => ((m2L23h _).1 x.is)
      have m2L23n : Nonempty (Memb m2L23S) := ⟨⟨_, (m2L23h _).2 (SK4.out)⟩⟩
      have m2L23H := Lib.hid m2L23h
      clear m2L23h
      refine MixK2.late (D := InS m2L23S) (x := 23) (by kernel_rfl) (cls_cons (InS.mk ((m2L23H.out _).2 (SK4.out))) (cls_cons (InS.mk ((m2L14H.out _).2 (DK4.out))) (cls_base (InS.mk ((m2H.out _).2 trivial))))) ?_
      refine wpMix2_seg 3 (InS m2S) (by kernel_rfl) (by decide) (cl_base [23, 14] rfl (by kernel_rfl)) ?_
      simp only [List.take_succ_cons, List.take_zero, List.drop_succ_cons, List.drop_zero]
      repeat (first | go_big_quiet_step (fail) | (go_big_quiet_want; first | refine quiet_conv m2L14k0 rfl rfl rfl (by simp only [Act.put, List.setIfInBounds_toArray, List.set_cons_succ, List.set_cons_zero]; rfl) ?_; go_big_quiet_on | refine quiet_conv m2L23k0 rfl rfl rfl (by simp only [Act.put, List.setIfInBounds_toArray, List.set_cons_succ, List.set_cons_zero]; rfl) ?_; go_big_quiet_on))
      refine wpQuiet_nil ?_
      refine wpMix2_seg 1 (InS m2L14S) (by kernel_rfl) (by decide) (cl_one rfl) ?_
      simp only [List.take_succ_cons, List.take_zero, List.drop_succ_cons, List.drop_zero]
      repeat (first | go_big_quiet_step (fail) | (go_big_quiet_want; first | refine quiet_conv m2L14k0 rfl rfl rfl (by simp only [Act.put, List.setIfInBounds_toArray, List.set_cons_succ, List.set_cons_zero]; rfl) ?_; go_big_quiet_on | refine quiet_conv m2L23k0 rfl rfl rfl (by simp only [Act.put, List.setIfInBounds_toArray, List.set_cons_succ, List.set_cons_zero]; rfl) ?_; go_big_quiet_on))
      refine wpQuiet_nil ?_
      refine wpMix2_seg 4 (InS m2S) (by kernel_rfl) (by decide) (cl_base [23, 14] rfl (by kernel_rfl)) ?_
      simp only [List.take_succ_cons, List.take_zero, List.drop_succ_cons, List.drop_zero]
      repeat (first | go_big_quiet_step (fail) | (go_big_quiet_want; first | refine quiet_conv m2L14k0 rfl rfl rfl (by simp only [Act.put, List.setIfInBounds_toArray, List.set_cons_succ, List.set_cons_zero]; rfl) ?_; go_big_quiet_on | refine quiet_conv m2L23k0 rfl rfl rfl (by simp only [Act.put, List.setIfInBounds_toArray, List.set_cons_succ, List.set_cons_zero]; rfl) ?_; go_big_quiet_on))
      refine wpQuiet_nil ?_
      refine wpMix2_eff (by kernel_rfl) ?_
      go_wp2_with fail
      refine SP.out.mono ?_
      rintro e w' ⟨rfl, rfl⟩
      go_wp2
      refine MixK2.on (cls_cons (InS.mk ((m2L23H.out _).2 (SK4.out))) (cls_cons (InS.mk ((m2L14H.out _).2 (DK4.out))) (cls_base (InS.mk ((m2H.out _).2 trivial))))) ?_
      refine wpMix2_seg 3 (InS m2S) (by kernel_rfl) (by decide) (cl_base [23, 14] rfl (by kernel_rfl)) ?_
      simp only [List.take_succ_cons, List.take_zero, List.drop_succ_cons, List.drop_zero]
      repeat (first | go_big_quiet_step (fail) | (go_big_quiet_want; first | refine quiet_conv m2L14k0 rfl rfl rfl (by simp only [Act.put, List.setIfInBounds_toArray, List.set_cons_succ, List.set_cons_zero]; rfl) ?_; go_big_quiet_on | refine quiet_conv m2L23k0 rfl rfl rfl (by simp only [Act.put, List.setIfInBounds_toArray, List.set_cons_succ, List.set_cons_zero]; rfl) ?_; go_big_quiet_on))
      refine wpQuiet_nil ?_
      refine wpMix2_seg 1 (InS m2L23S) (by kernel_rfl) (by decide) (cl_one rfl) ?_
      simp only [List.take_succ_cons, List.take_zero, List.drop_succ_cons, List.drop_zero]
      repeat (first | go_big_quiet_step (fail) | (go_big_quiet_want; first | refine quiet_conv m2L14k0 rfl rfl rfl (by simp only [Act.put, List.setIfInBounds_toArray, List.set_cons_succ, List.set_cons_zero]; rfl) ?_; go_big_quiet_on | refine quiet_conv m2L23k0 rfl rfl rfl (by simp only [Act.put, List.setIfInBounds_toArray, List.set_cons_succ, List.set_cons_zero]; rfl) ?_; go_big_quiet_on))
      refine wpQuiet_nil ?_
      refine wpMix2_seg 2 (InS m2S) (by kernel_rfl) (by decide) (cl_base [23, 14] rfl (by kernel_rfl)) ?_
      simp only [List.take_succ_cons, List.take_zero, List.drop_succ_cons, List.drop_zero]
      repeat (first | go_big_quiet_step (fail) | (go_big_quiet_want; first | refine quiet_conv m2L14k0 rfl rfl rfl (by simp only [Act.put, List.setIfInBounds_toArray, List.set_cons_succ, List.set_cons_zero]; rfl) ?_; go_big_quiet_on | refine quiet_conv m2L23k0 rfl rfl rfl (by simp only [Act.put, List.setIfInBounds_toArray, List.set_cons_succ, List.set_cons_zero]; rfl) ?_; go_big_quiet_on))
      refine wpQuiet_nil ?_
      refine wpMix2_nil ?_
      clear  m2n m2H m2L14k0 m2L14n m2L14H m2L23k0 m2L23n m2L23H
      go_wp2
      go_roundw
      case rel => exact ⟨j + 1, s4, L4, r4, Lr4, hlt, by go_num, H4.out, S4.out, R4.out⟩
      case measure => simp [intOf]; omega
    · obtain rfl : j = m := by omega
      have hee := HF.out.ee
      have EQ := Lib.hid (fun k => rferases_any B1 Lr r qr k wr HF.out.g HF.out.gq)
      have hn9 := HF.out.g.n9
      obtain ⟨n, hn⟩ : ∃ n, Lr.n = n := ⟨_, rfl⟩
      rw [hn] at hee hn9
      clear hn
      obtain ⟨wv, rfl⟩ : ∃ x, x = wr := ⟨_, rfl⟩
      go_wp2
      go_loop [9] (fun iv => ∃ k : Int, -1 ≤ k ∧ k ≤ n + 1 ∧ iv = .int .i64 k) (fun iv => ((n : Int) + 2 - intOf iv).toNat)
      case atStart => exact ⟨-1, by omega, by omega, rfl⟩
      case round =>
        obtain ⟨k, hk0, hk1, rfl⟩ := hrel
        by_cases hle : k ≤ n
        · have x1 : decide (k ≤ (n : Int)) = true := decide_eq_true hle
          have EF := Lib.hid (lerases HF.out.f k)
          have ER := Lib.hid (EQ.out k)
          rw [HS.out.erases] at ER
          generalize s.erasesF k = x at *
          go_wp2_with fail
          refine EF.out.mono ?_
          rintro e w' ⟨rfl, rfl⟩
          go_wp2_with fail
          refine ER.out.mono ?_
          rintro e w' ⟨rfl, rfl⟩
          go_wp2
          go_round
          case rel => exact ⟨k + 1, by omega, by omega, by go_num⟩
          case measure => simp [intOf]; omega
        · have x1 : decide (k ≤ (n : Int)) = false := decide_eq_false hle
          obtain ⟨cb, BB⟩ := HF.out.bb HS.out
          obtain ⟨N, hN⟩ : ∃ N, s.b.length = N := ⟨_, rfl⟩
          have hpk : s.peekF 0 N = s.b := by
            have := peek_eq (s := s) (a := 0) (n := N) (X := s.b) (by omega) hN (fun i _ => by rw [Nat.zero_add])
            exact this
          have PK := Lib.hid (fun w' (h' : FR W w' B0 q L s B1 qr Lr r) => lpeek h'.f 0 N)
          rw [hpk] at PK
          have SZ := Lib.hid (fun w' (h' : FR W w' B0 q L s B1 qr Lr r) => lsize h'.f)
          rw [hN] at SZ cb BB
          have HBB := Lib.hid BB
          have HCB := Lib.hid (fun w' (h' : FR W w' B0 q L s B1 qr Lr r) => (h'.bb HS.out))
          rw [hN] at HCB
          have HNN := Lib.hid hN
          obtain ⟨sz, hsz⟩ : ∃ sz, strOf s.b = sz := ⟨_, rfl⟩
          have HSZ := Lib.hid hsz
          have qz : (sz.toList == sz.toList) = true := by simp
          generalize Lr.gb = gb at *
          generalize Lr.capb = capb at *
          clear hpk hN hsz BB EQ
          go_wp2
          obtain ⟨m3S, m3h⟩ : ∃ S : World → Prop, ∀ w', S w' ↔ (w'.cell? ⟨qr, 0, none⟩ = some (.slice (some ⟨gb, 0, none⟩) N capb) ∧ ((convert 22 9 (.slice (some ⟨gb, 0, none⟩) N capb)).run Try.prog w' = .ok (.string sz) w')) := ⟨_, fun _ => Iff.rfl⟩
          have m3k0 : ∀ x : Memb m3S, x.at_.cell? ⟨qr, 0, none⟩ = some (.slice (some ⟨gb, 0, none⟩) N capb) := fun x => ((m3h _).1 x.is).1
          have m3k1 : ∀ x : Memb m3S, (convert 22 9 (.slice (some ⟨gb, 0, none⟩) N capb)).run Try.prog x.at_ = .ok (.string sz) x.at_ := fun x => ((m3h _).1 x.is).2
          have m3n : Nonempty (Memb m3S) := ⟨⟨(wv).drew, (m3h _).2 ⟨cb, (HSZ.out ▸ run_str HBB.out.drew)⟩⟩⟩
          have m3H := Lib.hid m3h
          clear m3h
          refine wp_region_mix [1, 11, 12, 13] (InS m3S) (by kernel_rfl) (by kernel_rfl) (InS.mk ((m3H.out _).2 ⟨cb, (HSZ.out ▸ run_str HBB.out.drew)⟩)) ?_
          refine wpMix_seg 1 (by kernel_rfl) (by decide) ?_
          simp only [List.take_succ_cons, List.take_zero, List.drop_succ_cons, List.drop_zero]
          repeat (first | go_big_quiet_step (fail) | (go_big_quiet_want; first | refine quiet_conv m3k1 rfl rfl rfl (by simp only [Act.put, List.setIfInBounds_toArray, List.set_cons_succ, List.set_cons_zero]; rfl) ?_; go_big_quiet_on))
          refine wpQuiet_nil ?_
          refine wpMix_eff (by kernel_rfl) ?_
          go_wp2_with fail
          refine (SZ.out _ HF.out.drew).mono ?_
          rintro e w' ⟨rfl, rfl⟩
          go_wp2
          refine MixK.on (InS.mk ((m3H.out _).2 ⟨cb, (HSZ.out ▸ run_str HBB.out.drew)⟩)) ?_
          refine wpMix_seg 9 (by kernel_rfl) (by decide) ?_
          simp only [List.take_succ_cons, List.take_zero, List.drop_succ_cons, List.drop_zero]
          repeat (first | go_big_quiet_step (fail) | (go_big_quiet_want; first | refine quiet_conv m3k1 rfl rfl rfl (by simp only [Act.put, List.setIfInBounds_toArray, List.set_cons_succ, List.set_cons_zero]; rfl) ?_; go_big_quiet_on))
          refine wpQuiet_nil ?_
          refine wpMix_eff (by kernel_rfl) ?_
          go_wp2_with fail
          refine (SZ.out _ HF.out.drew).mono ?_
          rintro e w' ⟨rfl, rfl⟩
          go_wp2
          refine MixK.on (InS.mk ((m3H.out _).2 ⟨cb, (HSZ.out ▸ run_str HBB.out.drew)⟩)) ?_
          refine wpMix_eff (by kernel_rfl) ?_
          go_wp2_with fail
          refine (PK.out _ HF.out.drew).mono ?_
          rintro e w6 ⟨v6, rfl, o6, k6⟩
          obtain ⟨A6, c6, rfl, b6⟩ := slice_of_own o6
          rw [HNN.out] at b6 ⊢
          have H6 := Lib.hid (HF.out.drew.later k6)
          have B6 := Lib.hid (HBB.out.drew.keeps k6 (fun _ _ _ _ _ h => h))
          have C6 := Lib.hid (HCB.out w6 H6.out).1
          have sd := run_str b6
          rw [HSZ.out] at sd
          clear o6 b6 k6
          go_wp2
          refine MixK.on (InS.mk ((m3H.out _).2 (⟨C6.out, HSZ.out ▸ run_str B6.out⟩))) ?_
          refine wpMix_eff (by kernel_rfl) ?_
          go_wp2
          refine MixK.on (InS.mk ((m3H.out _).2 (⟨C6.out, HSZ.out ▸ run_str B6.out⟩))) ?_
          refine wpMix_seg 8 (by kernel_rfl) (by decide) ?_
          simp only [List.take_succ_cons, List.take_zero, List.drop_succ_cons, List.drop_zero]
          repeat (first | go_big_quiet_step (fail) | (go_big_quiet_want; first | refine quiet_conv m3k1 rfl rfl rfl (by simp only [Act.put, List.setIfInBounds_toArray, List.set_cons_succ, List.set_cons_zero]; rfl) ?_; go_big_quiet_on))
          refine wpQuiet_nil ?_
          refine wpMix_nil ?_
          clear m3k0 m3k1 m3n m3H
          go_wp2
          go_ret
          exact ⟨by first | rfl | simp, H6.out.keeps.below (fun _ _ h => h)⟩
theorem plays2_all (sectors : Int) (A : Option Addr) (m cap : Nat) (xs : List Value) (W : World) (hs : IsSl W A m cap 4 xs) (h : ∀ i, i < m → ∃ c, ActAt W xs i c) :
    Calls Try.prog 5 #[.int .i64 sectors, .slice A m cap] W fun e w' => e = .returned (.bool true) ∧ Below W.heap.size W w' := by
  obtain ⟨F, hF⟩ := acts_of hs h
  exact plays2_any sectors A m cap xs F W hF
set_option maxRecDepth 100000 in
theorem FlashPlays_lifted (os : Os) (started : os.Started) (H : Type) (enc : TypeId × Value → H) :
    ReturnsInHanded {} Try.checked os 5 .any (Rows.flashPlaysSpec.pre6 enc Try.prog Try.f5 Rows.flashPlaysRow.domain false) (Rows.flashPlaysSpec.post enc Try.prog Try.f5 false true false false) := by
  refine returnsInHanded_of_change (C := Try.checked) Try.own started (by kernel_rfl) Try.func5
    (ChangeSpec.witness6 (enc := enc) (C := Try.checked) false ⟨#[], #[.int .i64 0, .slice none 0 0], []⟩ 8 (by kernel_rfl) (by kernel_rfl) (by kernel_rfl) (by kernel_rfl)) ?_
  intro W base args ds gs before hval0 hW hcnd _
  have hval : ∀ (j : Nat) t v, Try.f5.params[j]? = some t → args[j]? = some v → Value.okWide Try.prog W .any base t v := hval0
  have hW' := hW
  obtain ⟨p, q, hA0, hV, rfl, hfz, hnd⟩ := hW
  have hA : DataW.TrodAll enc Try.prog W 0 (fun _ => true) true Try.f5.params.toList args.toList ds p := hA0
  rw [Try.params5] at hA hval
  obtain ⟨v0, vs0, d0, ds0, p0, q0, hargs, rfl, rfl, h0, r0⟩ := trodAll_cons hA
  obtain ⟨v1, vs1, d1, ds1, p1, q1, rfl, rfl, rfl, h1, r1⟩ := trodAll_cons r0
  obtain ⟨rfl, rfl, rfl⟩ := trodAll_nil r1
  obtain rfl : args = #[v0, v1] := by cases args; simp_all
  obtain ⟨rfl, rfl⟩ := trodVars_none hV
  have k0 := h0
  have lt0 : ∀ x ∈ p0, x.block < W.heap.size := by obtain ⟨m, hm⟩ := k0; exact DataW.trod_lt m _ _ _ hm
  obtain ⟨a0, rfl, rfl, rfl, w0⟩ := open_int Try.underlying3 (hval 0 3 v0 rfl rfl) h0
  have k1 := h1
  have lt1 : ∀ x ∈ p1, x.block < W.heap.size := by obtain ⟨m, hm⟩ := k1; exact DataW.trod_lt m _ _ _ hm
  obtain ⟨a1, len1, cap1, rfl⟩ := okWide_slice Try.underlying42 (hval 1 42 v1 rfl rfl)
  obtain ⟨z1, s1, f1⟩ := open_structs' Try.underlying42 Try.underlying48 (by kernel_rfl) (by kernel_rfl) (by decide) h1
  clear hA0 hval0
  refine (plays2_all a0 a1 len1 cap1 z1 W s1 (fun i hi => by obtain ⟨y0, e0, _⟩ := fld_int f1 (j := 0) rfl Try.underlying3 hi; obtain ⟨y1, e1, _⟩ := fld_int f1 (j := 1) rfl Try.underlying3 hi; obtain ⟨y2, e2, w2⟩ := fld_int f1 (j := 2) rfl Try.underlying3 hi; obtain ⟨A, l, c, zs, e3, hb⟩ := fld_bytes f1 (j := 3) rfl rfl hi; exact ⟨⟨y0, y1, y2, A, l, c, zs⟩, e0, e1, e2, e3, hb, (wf_i64_bd w2).2⟩)).mono fun e W' ⟨he, bel⟩ => ?_
  subst he
  exact ⟨_, rfl, _, _, _, [], _, [], hW', trodAll_mk1 (shut_bool Try.underlying4 _), (trodAll_cons_mk (Below.trod Try.laidOut (by kernel_rfl) (of_decide_eq_true (by kernel_rfl)) k0 bel lt0) (trodAll_cons_mk (Below.trod Try.laidOut (by kernel_rfl) (of_decide_eq_true (by kernel_rfl)) k1 bel lt1) trodAll_mk0)), rfl, bel.frame _, fun h => by cases h⟩

set_option maxRecDepth 100000 in
theorem FlashPlays_closed : joinedFacts Try.checked.prog 5 Try.f5 Rows.flashPlaysSpec Rows.flashPlaysRow = true := by
  unfold joinedFacts
  rw [closed_laid, closed_maps, closed_heard, closed_plain, closed_mayEnter, closed_lifts, closed_make]
  kernel_rfl

theorem FlashPlays_holds : Rows.FlashPlaysSaid :=
  OpenClaim.holds_of_wide 5 Try.f5 rfl rfl rfl rfl rfl rfl rfl ⟨rfl, rfl, rfl, rfl, rfl⟩ rfl rfl rfl rfl rfl (by kernel_rfl) Try.func5 FlashPlays_closed
    (of_decide_eq_true (by kernel_rfl)) (by unfold Func.isWrapper; first | (rw [if_pos (by decide +kernel)]; kernel_rfl) | (rw [if_neg (by decide +kernel)]; exact ⟨rfl, rfl⟩))
    (fun os started H enc _ => FlashPlays_lifted os started H enc)
#print axioms FlashPlays_holds
end Go.Proofs.Ytngofnlhbhfigaa
