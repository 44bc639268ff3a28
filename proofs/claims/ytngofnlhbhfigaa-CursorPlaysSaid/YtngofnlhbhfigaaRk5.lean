/- The walk of the reference's NewCursor. -/
import Derived.Test.YtngofnlhbhfigaaRk4
namespace Go.Proofs.Ytngofnlhbhfigaa
open Go.RowKit

def rnewK (f c : Nat) (s : FS) (a : Int) : Option RS × Int :=
  if a < 0 ∨ ((1024 * c : Nat) : Int) < a then (none, 1)
  else if (s.gread f c (a - a % 8) (a % 8)).2 ≠ 0 then (none, (s.gread f c (a - a % 8) (a % 8)).2)
  else (some { at_ := a.toNat, held := (s.gread f c (a - a % 8) (a % 8)).1, dead := 0, rdy := (List.replicate (c + 1) false).set (a.toNat / 1024) (decide (a.toNat % 1024 ≠ 0)), ent := List.replicate (c + 1) false }, 0)
def RKMade (w : World) (B : Nat) (L : RL) (s : FS) (q f c : Nat) (p : Option RS × Int) (e : Ending) (w' : World) : Prop :=
  match p.1 with
  | none => e = .returned (.tuple #[.pointer none, .int .i64 p.2]) ∧ Keeps None w w'
  | some k => ∃ K, e = .returned (.tuple #[.pointer (some ⟨RKL.cb K, 0, none⟩), .int .i64 p.2]) ∧ RKAt w' B L s K q f c k ∧ (∀ j, K.X j → w.heap.size ≤ j) ∧ (∀ b off, 0 < k.held.length → K.A = some ⟨b, off, none⟩ → w.heap.size ≤ b) ∧ Keeps None w w'
theorem infoB5 : (Try.prog.info? 4).map (fun i => (i.zero, i.size, i.bytes)) = some (some (.bool false), 1, 1) := by kernel_rfl
theorem Blk.newAt5 {X : World} {b : Nat} (h : X.heap.size = b) (c : List Value) (T : TypeId) : Blk (X.alloc (.cells c.toArray T)) b c T := by subst h; exact Blk.new X c T
theorem blk_rep {X : World} {b : Nat} (h : X.heap.size = b) (n : Nat) (v : Value) (T : TypeId) : Blk (X.alloc (.cells (Array.replicate n v) T)) b (List.replicate n v) T := by
  rw [← List.toArray_replicate]; exact Blk.newAt5 h _ _
set_option maxRecDepth 100000 in
set_option maxHeartbeats 1600000 in
theorem rknew_any (B : Nat) (L : RL) (s : FS) (q first count : Nat) (a : Int) (w : World) (h : RAt w B L s) (hq : L.bf = q) (hf : first + count ≤ L.n) (hB : B ≤ w.heap.size) :
    Calls Try.prog 60 #[.agg #[.pointer (some ⟨q, 0, none⟩), .int .i64 first, .int .i64 count], .int .i64 a] w (RKMade w B L s q first count (rnewK first count s a)) := by
  have hc9 : first + count ≤ 256 := by have := h.n9; omega
  obtain ⟨p, hp⟩ : ∃ p, rnewK first count s a = p := ⟨_, rfl⟩
  rw [hp]
  unfold rnewK at hp
  obtain ⟨sz, hsz⟩ : ∃ x, 1024 * count = x := ⟨_, rfl⟩
  have GS := Lib.hid (fun w => rgsize_any (some ⟨q, 0, none⟩) first count (by omega) w)
  have HQ := Lib.hid hq
  have HF := Lib.hid hf
  have HBW := Lib.hid hB
  have k0 : Keeps None w (w.alloc (.cells #[.pointer (some ⟨q, 0, none⟩), .int .i64 first, .int .i64 count] 66)) := (Keeps.refl None w).alloc _
  have bx : Blk (w.alloc (.cells #[.pointer (some ⟨q, 0, none⟩), .int .i64 first, .int .i64 count] 66)) w.heap.size [.pointer (some ⟨q, 0, none⟩), .int .i64 first, .int .i64 count] 66 := Blk.new w [.pointer (some ⟨q, 0, none⟩), .int .i64 first, .int .i64 count] 66
  have K0 := Lib.hid k0
  have BX := Lib.hid bx
  have H0 := Lib.hid (h.later K0.out)
  have dk := H0.out.dk hq
  have y0 := bx.cellD 0 _ rfl
  have y1 := bx.cellD 1 _ rfl
  have y2 := bx.cellD 2 _ rfl
  clear k0 bx
  have RD := Lib.hid (fun a m w' (h' : RAt w' B L s) => rgread_any B L s q first count a m w' h' hq hc9)
  rw [hsz] at hp GS
  clear h hq hf hB dk
  by_cases q1 : a < 0
  · have d1 : decide (a < 0) = true := decide_eq_true q1
    rw [if_pos (.inl q1)] at hp
    subst hp
    go_enter Try.func60, Try.ntmps60
    go_wp2
    go_ret2
    exact ⟨rfl, K0.out⟩
  have d1 : decide (a < 0) = false := decide_eq_false q1
  by_cases q2 : (sz : Int) < a
  · have d2 : decide ((sz : Int) < a) = true := decide_eq_true q2
    rw [if_pos (.inr q2)] at hp
    subst hp
    go_enter Try.func60, Try.ntmps60
    go_wp2_with fail
    refine (GS.out _).mono ?_
    rintro e w2 ⟨rfl, k2⟩
    have K2 := Lib.hid (K0.out.trans k2 (T := None) (fun _ h => h) (fun _ _ h => h))
    clear k2
    go_wp2
    go_ret2
    exact ⟨rfl, K2.out⟩
  have d2 : decide ((sz : Int) < a) = false := decide_eq_false q2
  rw [if_neg (by omega)] at hp
  obtain ⟨a, rfl⟩ : ∃ x : Nat, a = x := ⟨a.toNat, by omega⟩
  have ha9 : a ≤ sz := by omega
  have sz9 : sz ≤ 262144 := by omega
  obtain ⟨x8, hx8⟩ : ∃ x, a / 8 = x := ⟨_, rfl⟩
  obtain ⟨wd, hwd⟩ : ∃ x, x8 * 8 = x := ⟨_, rfl⟩
  obtain ⟨n, hn⟩ : ∃ x, a - wd = x := ⟨_, rfl⟩
  obtain ⟨x, hx⟩ : ∃ x, a / 1024 = x := ⟨_, rfl⟩
  obtain ⟨y, hy⟩ : ∃ x, a % 1024 = x := ⟨_, rfl⟩
  obtain ⟨bo, hbo⟩ : ∃ x, decide (a % 1024 ≠ 0) = x := ⟨_, rfl⟩
  have e8 : ((a : Int) / 8) = x8 := by omega
  have e9 : ((x8 : Int) * 8) = wd := by omega
  have j1 : IntKind.i64.wrap ((a : Int) - wd) = n := by rw [show (a : Int) - wd = (n : Int) by omega]; exact wrap_nat _ (by omega)
  have ex : ((a : Int) / 1024) = x := by omega
  have ey : ((a : Int) % 1024) = y := by omega
  have eb1 : ((y : Int) != 0) = bo := by
    rw [← hbo]; by_cases e : a % 1024 = 0
    · have e2 : y = 0 := by omega
      subst e2; simp [e]
    · rw [decide_eq_true e]; simp only [bne_iff_ne]; omega
  have m1 : (a : Int) - (a : Int) % 8 = wd := by omega
  have m2 : (a : Int) % 8 = n := by omega
  rw [m1, m2] at hp
  simp only [Int.toNat_natCast] at hp
  rw [hx, hbo] at hp
  have RDp := Lib.hid (RD.out wd n)
  obtain ⟨zs, er, hrd⟩ : ∃ zs er, s.gread first count wd n = (zs, er) := ⟨_, _, rfl⟩
  have hlen : er = 0 → zs.length = n := fun e => by
    have := gread_len (s := s) (f := first) (c := count) (a := wd) (m := n) (by rw [hrd]; exact e)
    rw [hrd] at this
    have h2 : (zs.length : Int) = n := this
    omega
  rw [hrd] at hp RDp
  have wd9 : wd ≤ 262144 := by omega
  have x89 : x8 ≤ 32768 := by omega
  have hx9 : x ≤ count := by omega
  obtain ⟨n1, hn1⟩ : ∃ x, count + 1 = x := ⟨_, rfl⟩
  have HN1 := Lib.hid hn1
  have j2 : IntKind.i64.wrap ((count : Int) + 1) = n1 := by rw [show (count : Int) + 1 = (n1 : Int) by omega]; exact wrap_nat _ (by omega)
  have n19 : n1 ≤ 257 := by omega
  have hx1 : x < n1 := by omega
  have N8 : Hid (n ≤ 8) := by show _ ≤ _; omega
  have NA : Hid (n ≤ a) := by show _ ≤ _; omega
  have AL : Hid (a ≤ 1024 * count) := by show _ ≤ _; omega
  have hmk := fun w => run_make_blk (P := Try.prog) 77 4 (.bool false) 1 Try.underlying77 infoB5 rfl .i64 .i64 n1 n1 n1 rfl rfl (by omega) (by omega) w
  have HP := Lib.hid hp
  clear hp q1 hx8 hwd hn hx hy hbo m1 m2 hrd RD hsz hn1
  by_cases q3 : er = 0
  · subst q3
    have LZ := Lib.hid (hlen rfl)
    have HPP : Hid (p = (some { at_ := a, held := zs, dead := 0, rdy := (List.replicate (count + 1) false).set x bo, ent := List.replicate (count + 1) false }, 0)) := by show _ = _; rw [← HP.out]; exact if_neg (fun h => h rfl)
    rw [HPP.out]
    clear hlen HP HPP
    go_enter Try.func60, Try.ntmps60
    go_wp2_with fail
    refine (GS.out _).mono ?_
    rintro e w2 ⟨rfl, k2⟩
    have K2 := Lib.hid (K0.out.trans k2 (T := None) (fun _ h => h) (fun _ _ h => h))
    have H2 := Lib.hid (H0.out.later k2)
    have B2 := Lib.hid (k2.blk BX.out (fun h => h))
    clear k2 y0 y1 y2
    have y0 := B2.out.cellD 0 _ rfl
    have y1 := B2.out.cellD 1 _ rfl
    have y2 := B2.out.cellD 2 _ rfl
    go_wp2_with fail
    refine (RDp.out _ H2.out).mono ?_
    rintro e w3 ⟨v3, rfl, o3, k3⟩
    obtain ⟨A3, c3, rfl, b3⟩ := slice_of_own o3
    have AP3 : Hid (∀ b off, A3 = some ⟨b, off, none⟩ → ¬ L.O b ∧ B ≤ b ∧ w.heap.size ≤ b) := fun b off e => by
      have h1 : w2.heap.size ≤ b := Nat.le_of_not_lt fun hlt => o3.notBelow hlt (by rw [e]; rfl)
      have h2 := K2.out.size
      exact ⟨fun hO => by have := H2.out.lt b hO; omega, by have := HBW.out; omega, by omega⟩
    have K3 := Lib.hid (K2.out.trans k3 (T := None) (fun _ h => h) (fun _ _ h => h))
    have H3 := Lib.hid (H2.out.later k3)
    have B3 := Lib.hid (k3.blk B2.out (fun h => h))
    rw [LZ.out] at b3 ⊢
    have BZ3 := Lib.hid b3
    obtain ⟨pb, hpb⟩ : ∃ x, w.heap.size = x := ⟨_, rfl⟩
    rw [hpb] at B3 ⊢
    clear o3 k3 b3 y0 y1 y2 B2 H2 hpb
    have d9 : ((0 : Int) != 0) = false := rfl
    go_wp2
    obtain ⟨mS, mh⟩ : ∃ S : World → Prop, ∀ w', S w' ↔ (w'.cell? ⟨pb, 0, none⟩ = some (.pointer (some ⟨q, 0, none⟩)) ∧ w'.cell? ⟨pb, 1, none⟩ = some (.int .i64 first) ∧ w'.cell? ⟨pb, 2, none⟩ = some (.int .i64 count)) := ⟨_, fun _ => Iff.rfl⟩
    have mk0 : ∀ x : Memb mS, x.at_.cell? ⟨pb, 0, none⟩ = some (.pointer (some ⟨q, 0, none⟩)) := fun x => ((mh _).1 x.is).1
    have mk1 : ∀ x : Memb mS, x.at_.cell? ⟨pb, 1, none⟩ = some (.int .i64 first) := fun x => ((mh _).1 x.is).2.1
    have mk2 : ∀ x : Memb mS, x.at_.cell? ⟨pb, 2, none⟩ = some (.int .i64 count) := fun x => ((mh _).1 x.is).2.2
    have mn : Nonempty (Memb mS) := ⟨⟨(w3).drew, (mh _).2 ⟨B3.out.cellD 0 _ rfl, B3.out.cellD 1 _ rfl, B3.out.cellD 2 _ rfl⟩⟩⟩
    have mH := Lib.hid mh
    clear mh
    refine wp_region_mix_swap [6, 10, 12] (InS mS) 3 7 11 6 10 (by kernel_rfl) (by kernel_rfl) (InS.mk ((mH.out _).2 ⟨B3.out.cellD 0 _ rfl, B3.out.cellD 1 _ rfl, B3.out.cellD 2 _ rfl⟩)) ?_ ?_
    ·
      refine wpMix_seg 6 (by kernel_rfl) (by decide) ?_
      simp only [List.take_succ_cons, List.take_zero, List.drop_succ_cons, List.drop_zero, Nat.reduceSub]
      repeat (go_big_quiet_step (fail))
      refine wpQuiet_nil ?_
      refine wpMix_eff (by kernel_rfl) ?_
      go_wp2
      have C4 := Lib.hid (B3.out.alloc (.cells (Array.replicate n1 (.bool false)) 4))
      refine MixK.on (InS.mk ((mH.out _).2 (⟨C4.out.cellD 0 _ rfl, C4.out.cellD 1 _ rfl, C4.out.cellD 2 _ rfl⟩))) ?_
      refine wpMix_seg 3 (by kernel_rfl) (by decide) ?_
      simp only [List.take_succ_cons, List.take_zero, List.drop_succ_cons, List.drop_zero, Nat.reduceSub]
      repeat (go_big_quiet_step (fail))
      refine wpQuiet_nil ?_
      refine wpMix_eff (by kernel_rfl) ?_
      go_wp2
      have C5 := Lib.hid (C4.out.alloc (.cells (Array.replicate n1 (.bool false)) 4))
      refine MixK.on (InS.mk ((mH.out _).2 (⟨C5.out.cellD 0 _ rfl, C5.out.cellD 1 _ rfl, C5.out.cellD 2 _ rfl⟩))) ?_
      refine wpMix_seg 1 (by kernel_rfl) (by decide) ?_
      simp only [List.take_succ_cons, List.take_zero, List.drop_succ_cons, List.drop_zero, Nat.reduceSub]
      repeat (go_big_quiet_step (fail))
      refine wpQuiet_nil ?_
      refine wpMix_eff (by kernel_rfl) ?_
      go_wp2
      refine MixK.on (InS.mk ((mH.out _).2 (⟨(C5.out.alloc _).cellD 0 _ rfl, (C5.out.alloc _).cellD 1 _ rfl, (C5.out.alloc _).cellD 2 _ rfl⟩))) ?_
      refine wpMix_seg 1 (by kernel_rfl) (by decide) ?_
      simp only [List.take_succ_cons, List.take_zero, List.drop_succ_cons, List.drop_zero, Nat.reduceSub]
      repeat (go_big_quiet_step (fail))
      refine wpQuiet_nil ?_
      refine wpMix_nil ?_
      clear mk0 mk1 mk2 mn mH
      have KN := Lib.hid ((((K3.out.alloc (.cells (Array.replicate n1 (.bool false)) 4)).alloc (.cells (Array.replicate n1 (.bool false)) 4)).alloc (.cells #[.pointer (some ⟨q, 0, none⟩), .int .i64 first, .int .i64 count, .int .i64 a, .slice A3 n c3, .int .i64 0, .slice (some ⟨w3.heap.size, 0, none⟩) n1 n1, .slice (some ⟨(w3.heap.size + 1), 0, none⟩) n1 n1] 92)).drew)
      have KB3 := Lib.hid ((((((Keeps.refl None w3).alloc (.cells (Array.replicate n1 (.bool false)) 4)).alloc (.cells (Array.replicate n1 (.bool false)) 4)).alloc (.cells #[.pointer (some ⟨q, 0, none⟩), .int .i64 first, .int .i64 count, .int .i64 a, .slice A3 n c3, .int .i64 0, .slice (some ⟨w3.heap.size, 0, none⟩) n1 n1, .slice (some ⟨(w3.heap.size + 1), 0, none⟩) n1 n1] 92))).drew)
      have RB := Lib.hid ((((blk_rep (X := w3) rfl n1 (.bool false) 4).alloc (.cells (Array.replicate n1 (.bool false)) 4)).alloc (.cells #[.pointer (some ⟨q, 0, none⟩), .int .i64 first, .int .i64 count, .int .i64 a, .slice A3 n c3, .int .i64 0, .slice (some ⟨w3.heap.size, 0, none⟩) n1 n1, .slice (some ⟨(w3.heap.size + 1), 0, none⟩) n1 n1] 92)).drew)
      have EB := Lib.hid (((blk_rep (X := w3.alloc (.cells (Array.replicate n1 (.bool false)) 4)) (b := w3.heap.size + 1) (by simp) n1 (.bool false) 4).alloc (.cells #[.pointer (some ⟨q, 0, none⟩), .int .i64 first, .int .i64 count, .int .i64 a, .slice A3 n c3, .int .i64 0, .slice (some ⟨w3.heap.size, 0, none⟩) n1 n1, .slice (some ⟨(w3.heap.size + 1), 0, none⟩) n1 n1] 92)).drew)
      have CB := Lib.hid ((Blk.newAt5 (X := (w3.alloc (.cells (Array.replicate n1 (.bool false)) 4)).alloc (.cells (Array.replicate n1 (.bool false)) 4)) (b := w3.heap.size + 1 + 1) (by simp) [.pointer (some ⟨q, 0, none⟩), .int .i64 first, .int .i64 count, .int .i64 a, .slice A3 n c3, .int .i64 0, .slice (some ⟨w3.heap.size, 0, none⟩) n1 n1, .slice (some ⟨(w3.heap.size + 1), 0, none⟩) n1 n1] 92).drew)
      have H6 := Lib.hid (H3.out.later KB3.out)
      have B6 := Lib.hid (BZ3.out.keeps KB3.out (fun _ _ _ _ _ h => h))
      have NEW : Hid (∀ j, j = w3.heap.size + 1 + 1 ∨ j = w3.heap.size ∨ j = (w3.heap.size + 1) → ¬ L.O j ∧ B ≤ j ∧ w.heap.size ≤ j) := fun j hj => ⟨fun hO => by have := H3.out.lt j hO; omega, by have := K3.out.size; have := HBW.out; omega, by have := K3.out.size; omega⟩
      have APN : Hid (∀ b off, 0 < n → A3 = some ⟨b, off, none⟩ → b ≠ w3.heap.size + 1 + 1 ∧ b ≠ w3.heap.size ∧ b ≠ (w3.heap.size + 1)) := fun b off h0 e => by
        obtain ⟨b', off', e', hb, _⟩ := BZ3.out.at_ h0
        rw [e] at e'; cases e'
        exact ⟨by omega, by omega, by omega⟩
      obtain ⟨w6, hw6⟩ : ∃ x, (((w3.alloc (.cells (Array.replicate n1 (.bool false)) 4)).alloc (.cells (Array.replicate n1 (.bool false)) 4)).alloc (.cells #[.pointer (some ⟨q, 0, none⟩), .int .i64 first, .int .i64 count, .int .i64 a, .slice A3 n c3, .int .i64 0, .slice (some ⟨w3.heap.size, 0, none⟩) n1 n1, .slice (some ⟨(w3.heap.size + 1), 0, none⟩) n1 n1] 92)).drew = x := ⟨_, rfl⟩
      rw [hw6] at KN RB EB CB H6 B6
      rw [hw6]
      clear hw6 KB3
      have f6 := CB.out.cellD 6 _ rfl
      have r0 := RB.out.cellD x _ (getElem?_replicate_lt (by omega))
      have zr := RB.out.frozen x
      go_wp2
      go_ret2
      have hk := Keeps.self (w3.heap.size) w6
      exact ⟨⟨w3.heap.size + 1 + 1, w3.heap.size, (w3.heap.size + 1), A3, c3⟩, rfl, ⟨H6.out.keeps (hk.put x _) (fun j hj e => (NEW.out j (.inr (.inl e))).1 hj), HQ.out, (hk.put x _).blk (by simp only [rkcells, LZ.out, HN1.out]; exact CB.out) (by first | omega | (dsimp only; omega)), by
          have := RB.out.set x (.bool bo)
          show Blk _ _ (List.map Value.bool ((List.replicate (count + 1) false).set x bo)) _
          rw [List.map_set, List.map_replicate, HN1.out]; exact this, (hk.put x _).blk (by show Blk _ _ (List.map Value.bool (List.replicate (count + 1) false)) _; rw [List.map_replicate, HN1.out]; exact EB.out) (by first | omega | (dsimp only; omega)),
          by show ((List.replicate (count + 1) false).set x bo).length = _; simp, by simp, (by rw [LZ.out]; exact B6.out.keeps (hk.put x _) (fun b off h0 _ e hj => (APN.out b off h0 e).2.1 hj)),
          fun b off h0 e => ⟨(AP3.out b off e).1, fun hX => by have := APN.out b off (by rw [← LZ.out]; exact h0) e; rcases hX with h | h | h; exact this.1 h; exact this.2.1 h; exact this.2.2 h, (AP3.out b off e).2.1⟩, fun j hj => (NEW.out j hj).1, fun j hj => (NEW.out j hj).2.1, by first | omega | (dsimp only; omega), by first | omega | (dsimp only; omega), by first | omega | (dsimp only; omega), by show zs.length ≤ 8; rw [LZ.out]; exact N8.out, by show zs.length ≤ a; rw [LZ.out]; exact NA.out, AL.out, HF.out⟩, fun j hj => (NEW.out j hj).2.2, fun b off _ e => (AP3.out b off e).2.2, KN.out.trans (hk.put x _) (fun _ h => h) (fun i hi e => by have := (NEW.out i (.inr (.inl e))).2.2; omega)⟩
    ·
      try dsimp only
      try simp only [List.take_succ_cons, List.take_zero, List.drop_succ_cons, List.drop_zero, Nat.reduceSub]
      refine wpMix_seg 3 (by kernel_rfl) (by decide) ?_
      simp only [List.take_succ_cons, List.take_zero, List.drop_succ_cons, List.drop_zero, Nat.reduceSub]
      repeat (go_big_quiet_step (fail))
      refine wpQuiet_nil ?_
      refine wpMix_nil ?_
      try dsimp only
      try simp only [List.take_succ_cons, List.take_zero, List.drop_succ_cons, List.drop_zero, Nat.reduceSub]
      refine wpMix_seg 3 (by kernel_rfl) (by decide) ?_
      simp only [List.take_succ_cons, List.take_zero, List.drop_succ_cons, List.drop_zero, Nat.reduceSub]
      repeat (go_big_quiet_step (fail))
      refine wpQuiet_nil ?_
      refine wpMix_eff (by kernel_rfl) ?_
      go_wp2
      have C4 := Lib.hid (B3.out.alloc (.cells (Array.replicate n1 (.bool false)) 4))
      refine MixK.on (InS.mk ((mH.out _).2 (⟨C4.out.cellD 0 _ rfl, C4.out.cellD 1 _ rfl, C4.out.cellD 2 _ rfl⟩))) ?_
      refine wpMix_nil ?_
      try dsimp only
      try simp only [List.take_succ_cons, List.take_zero, List.drop_succ_cons, List.drop_zero, Nat.reduceSub]
      refine wpMix_seg 3 (by kernel_rfl) (by decide) ?_
      simp only [List.take_succ_cons, List.take_zero, List.drop_succ_cons, List.drop_zero, Nat.reduceSub]
      repeat (go_big_quiet_step (fail))
      refine wpQuiet_nil ?_
      refine wpMix_eff (by kernel_rfl) ?_
      go_wp2
      have C5 := Lib.hid (C4.out.alloc (.cells (Array.replicate n1 (.bool false)) 4))
      refine MixK.on (InS.mk ((mH.out _).2 (⟨C5.out.cellD 0 _ rfl, C5.out.cellD 1 _ rfl, C5.out.cellD 2 _ rfl⟩))) ?_
      refine wpMix_nil ?_
      try dsimp only
      try simp only [List.take_succ_cons, List.take_zero, List.drop_succ_cons, List.drop_zero, Nat.reduceSub]
      refine wpMix_seg 1 (by kernel_rfl) (by decide) ?_
      simp only [List.take_succ_cons, List.take_zero, List.drop_succ_cons, List.drop_zero, Nat.reduceSub]
      repeat (go_big_quiet_step (fail))
      refine wpQuiet_nil ?_
      refine wpMix_eff (by kernel_rfl) ?_
      go_wp2
      refine MixK.on (InS.mk ((mH.out _).2 (⟨(C5.out.alloc _).cellD 0 _ rfl, (C5.out.alloc _).cellD 1 _ rfl, (C5.out.alloc _).cellD 2 _ rfl⟩))) ?_
      refine wpMix_seg 1 (by kernel_rfl) (by decide) ?_
      simp only [List.take_succ_cons, List.take_zero, List.drop_succ_cons, List.drop_zero, Nat.reduceSub]
      repeat (go_big_quiet_step (fail))
      refine wpQuiet_nil ?_
      refine wpMix_nil ?_
      clear mk0 mk1 mk2 mn mH
      have KN := Lib.hid ((((K3.out.alloc (.cells (Array.replicate n1 (.bool false)) 4)).alloc (.cells (Array.replicate n1 (.bool false)) 4)).alloc (.cells #[.pointer (some ⟨q, 0, none⟩), .int .i64 first, .int .i64 count, .int .i64 a, .slice A3 n c3, .int .i64 0, .slice (some ⟨(w3.heap.size + 1), 0, none⟩) n1 n1, .slice (some ⟨w3.heap.size, 0, none⟩) n1 n1] 92)).drew)
      have KB3 := Lib.hid ((((((Keeps.refl None w3).alloc (.cells (Array.replicate n1 (.bool false)) 4)).alloc (.cells (Array.replicate n1 (.bool false)) 4)).alloc (.cells #[.pointer (some ⟨q, 0, none⟩), .int .i64 first, .int .i64 count, .int .i64 a, .slice A3 n c3, .int .i64 0, .slice (some ⟨(w3.heap.size + 1), 0, none⟩) n1 n1, .slice (some ⟨w3.heap.size, 0, none⟩) n1 n1] 92))).drew)
      have RB := Lib.hid (((blk_rep (X := w3.alloc (.cells (Array.replicate n1 (.bool false)) 4)) (b := w3.heap.size + 1) (by simp) n1 (.bool false) 4).alloc (.cells #[.pointer (some ⟨q, 0, none⟩), .int .i64 first, .int .i64 count, .int .i64 a, .slice A3 n c3, .int .i64 0, .slice (some ⟨(w3.heap.size + 1), 0, none⟩) n1 n1, .slice (some ⟨w3.heap.size, 0, none⟩) n1 n1] 92)).drew)
      have EB := Lib.hid ((((blk_rep (X := w3) rfl n1 (.bool false) 4).alloc (.cells (Array.replicate n1 (.bool false)) 4)).alloc (.cells #[.pointer (some ⟨q, 0, none⟩), .int .i64 first, .int .i64 count, .int .i64 a, .slice A3 n c3, .int .i64 0, .slice (some ⟨(w3.heap.size + 1), 0, none⟩) n1 n1, .slice (some ⟨w3.heap.size, 0, none⟩) n1 n1] 92)).drew)
      have CB := Lib.hid ((Blk.newAt5 (X := (w3.alloc (.cells (Array.replicate n1 (.bool false)) 4)).alloc (.cells (Array.replicate n1 (.bool false)) 4)) (b := w3.heap.size + 1 + 1) (by simp) [.pointer (some ⟨q, 0, none⟩), .int .i64 first, .int .i64 count, .int .i64 a, .slice A3 n c3, .int .i64 0, .slice (some ⟨(w3.heap.size + 1), 0, none⟩) n1 n1, .slice (some ⟨w3.heap.size, 0, none⟩) n1 n1] 92).drew)
      have H6 := Lib.hid (H3.out.later KB3.out)
      have B6 := Lib.hid (BZ3.out.keeps KB3.out (fun _ _ _ _ _ h => h))
      have NEW : Hid (∀ j, j = w3.heap.size + 1 + 1 ∨ j = (w3.heap.size + 1) ∨ j = w3.heap.size → ¬ L.O j ∧ B ≤ j ∧ w.heap.size ≤ j) := fun j hj => ⟨fun hO => by have := H3.out.lt j hO; omega, by have := K3.out.size; have := HBW.out; omega, by have := K3.out.size; omega⟩
      have APN : Hid (∀ b off, 0 < n → A3 = some ⟨b, off, none⟩ → b ≠ w3.heap.size + 1 + 1 ∧ b ≠ (w3.heap.size + 1) ∧ b ≠ w3.heap.size) := fun b off h0 e => by
        obtain ⟨b', off', e', hb, _⟩ := BZ3.out.at_ h0
        rw [e] at e'; cases e'
        exact ⟨by omega, by omega, by omega⟩
      obtain ⟨w6, hw6⟩ : ∃ x, (((w3.alloc (.cells (Array.replicate n1 (.bool false)) 4)).alloc (.cells (Array.replicate n1 (.bool false)) 4)).alloc (.cells #[.pointer (some ⟨q, 0, none⟩), .int .i64 first, .int .i64 count, .int .i64 a, .slice A3 n c3, .int .i64 0, .slice (some ⟨(w3.heap.size + 1), 0, none⟩) n1 n1, .slice (some ⟨w3.heap.size, 0, none⟩) n1 n1] 92)).drew = x := ⟨_, rfl⟩
      rw [hw6] at KN RB EB CB H6 B6
      rw [hw6]
      clear hw6 KB3
      have f6 := CB.out.cellD 6 _ rfl
      have r0 := RB.out.cellD x _ (getElem?_replicate_lt (by omega))
      have zr := RB.out.frozen x
      go_wp2
      go_ret2
      have hk := Keeps.self ((w3.heap.size + 1)) w6
      exact ⟨⟨w3.heap.size + 1 + 1, (w3.heap.size + 1), w3.heap.size, A3, c3⟩, rfl, ⟨H6.out.keeps (hk.put x _) (fun j hj e => (NEW.out j (.inr (.inl e))).1 hj), HQ.out, (hk.put x _).blk (by simp only [rkcells, LZ.out, HN1.out]; exact CB.out) (by first | omega | (dsimp only; omega)), by
          have := RB.out.set x (.bool bo)
          show Blk _ _ (List.map Value.bool ((List.replicate (count + 1) false).set x bo)) _
          rw [List.map_set, List.map_replicate, HN1.out]; exact this, (hk.put x _).blk (by show Blk _ _ (List.map Value.bool (List.replicate (count + 1) false)) _; rw [List.map_replicate, HN1.out]; exact EB.out) (by first | omega | (dsimp only; omega)),
          by show ((List.replicate (count + 1) false).set x bo).length = _; simp, by simp, (by rw [LZ.out]; exact B6.out.keeps (hk.put x _) (fun b off h0 _ e hj => (APN.out b off h0 e).2.1 hj)),
          fun b off h0 e => ⟨(AP3.out b off e).1, fun hX => by have := APN.out b off (by rw [← LZ.out]; exact h0) e; rcases hX with h | h | h; exact this.1 h; exact this.2.1 h; exact this.2.2 h, (AP3.out b off e).2.1⟩, fun j hj => (NEW.out j hj).1, fun j hj => (NEW.out j hj).2.1, by first | omega | (dsimp only; omega), by first | omega | (dsimp only; omega), by first | omega | (dsimp only; omega), by show zs.length ≤ 8; rw [LZ.out]; exact N8.out, by show zs.length ≤ a; rw [LZ.out]; exact NA.out, AL.out, HF.out⟩, fun j hj => (NEW.out j hj).2.2, fun b off _ e => (AP3.out b off e).2.2, KN.out.trans (hk.put x _) (fun _ h => h) (fun i hi e => by have := (NEW.out i (.inr (.inl e))).2.2; omega)⟩
  · have d3 : (er != 0) = true := by simp [q3]
    have HPP : Hid (p = (none, er)) := by show _ = _; rw [← HP.out]; exact if_pos q3
    rw [HPP.out]
    clear hlen HP HPP
    go_enter Try.func60, Try.ntmps60
    go_wp2_with fail
    refine (GS.out _).mono ?_
    rintro e w2 ⟨rfl, k2⟩
    have K2 := Lib.hid (K0.out.trans k2 (T := None) (fun _ h => h) (fun _ _ h => h))
    have H2 := Lib.hid (H0.out.later k2)
    have B2 := Lib.hid (k2.blk BX.out (fun h => h))
    clear k2 y0 y1 y2
    have y0 := B2.out.cellD 0 _ rfl
    have y1 := B2.out.cellD 1 _ rfl
    have y2 := B2.out.cellD 2 _ rfl
    go_wp2_with fail
    refine (RDp.out _ H2.out).mono ?_
    rintro e w3 ⟨v3, rfl, o3, k3⟩
    have K3 := Lib.hid (K2.out.trans k3 (T := None) (fun _ h => h) (fun _ _ h => h))
    clear o3 k3
    go_wp2
    go_ret2
    exact ⟨rfl, K3.out⟩
end Go.Proofs.Ytngofnlhbhfigaa
