/-
  For every record, every row of bytes behind it and every cut, the law SealBack returns true: a record is read as it was put, whatever is behind it, and no front of it is one. No condition.
-/
import Derived.Test.YteogaacdmoafpaaSealRec
namespace Go.Proofs.Yteogaacdmoafpaa
open Go.RowKit Go.ChangeShapes Go.WideShapes Go.ChangeAt


set_option maxRecDepth 100000 in
set_option maxHeartbeats 3200000 in
theorem sput_all (kind seq : Int) (A : Option Addr) (n cap : Nat) (zs : List Int) (w : World) (h : Bs w A n cap zs) :
    Calls Try.prog 40 #[.agg #[.int .i64 kind, .int .i64 seq, .slice A n cap]] w fun e w' => ∃ v, e = .returned v ∧ Own w' w.heap.size v (putL kind seq zs) ∧ Keeps None w w' := by
  by_cases hmx : n ≤ 1000000
  · exact sput_any kind seq A n cap zs w h hmx
  have hl := h.len
  have hle := h.le
  have hmm := h.max
  by_cases g1 : kind < 1
  · have d1 : decide (kind < 1) = true := decide_eq_true g1
    have HP : Hid (putL kind seq zs = []) := if_neg (fun hf => by obtain ⟨f1, f2, f3, f4, f5⟩ := hf; omega)
    clear h
    go_enter Try.func40, Try.ntmps40
    go_wp2
    go_ret
    exact ⟨_, rfl, by rw [HP.out]; exact Own.nil _ _, (Keeps.refl _ _).alloc _⟩
  have d1 : decide (kind < 1) = false := decide_eq_false g1
  by_cases g2 : 250 < kind
  · have d2 : decide (250 < kind) = true := decide_eq_true g2
    have HP : Hid (putL kind seq zs = []) := if_neg (fun hf => by obtain ⟨f1, f2, f3, f4, f5⟩ := hf; omega)
    clear h
    go_enter Try.func40, Try.ntmps40
    go_wp2
    go_ret
    exact ⟨_, rfl, by rw [HP.out]; exact Own.nil _ _, (Keeps.refl _ _).alloc _⟩
  have d2 : decide (250 < kind) = false := decide_eq_false g2
  by_cases g3 : seq < 0
  · have d3 : decide (seq < 0) = true := decide_eq_true g3
    have HP : Hid (putL kind seq zs = []) := if_neg (fun hf => by obtain ⟨f1, f2, f3, f4, f5⟩ := hf; omega)
    clear h
    go_enter Try.func40, Try.ntmps40
    go_wp2
    go_ret
    exact ⟨_, rfl, by rw [HP.out]; exact Own.nil _ _, (Keeps.refl _ _).alloc _⟩
  have d3 : decide (seq < 0) = false := decide_eq_false g3
  by_cases g4 : 4294967295 < seq
  · have d4 : decide (4294967295 < seq) = true := decide_eq_true g4
    have HP : Hid (putL kind seq zs = []) := if_neg (fun hf => by obtain ⟨f1, f2, f3, f4, f5⟩ := hf; omega)
    clear h
    go_enter Try.func40, Try.ntmps40
    go_wp2
    go_ret
    exact ⟨_, rfl, by rw [HP.out]; exact Own.nil _ _, (Keeps.refl _ _).alloc _⟩
  have d4 : decide (4294967295 < seq) = false := decide_eq_false g4
  have d5 : decide (512 < (n : Int)) = true := decide_eq_true (by omega)
  have HP : Hid (putL kind seq zs = []) := if_neg (fun hf => by obtain ⟨f1, f2, f3, f4, f5⟩ := hf; omega)
  clear h
  go_enter Try.func40, Try.ntmps40
  go_wp2
  go_ret
  exact ⟨_, rfl, by rw [HP.out]; exact Own.nil _ _, (Keeps.refl _ _).alloc _⟩

set_option maxRecDepth 100000 in
theorem rsame_yes (k s : Int) (A B : Option Addr) (n c m d : Nat) (zs : List Int) (w : World) (h1 : Bs w A n c zs) (h2 : Bs w B m d zs) :
    Calls Try.prog 42 #[.agg #[.int .i64 k, .int .i64 s, .slice A n c], .agg #[.int .i64 k, .int .i64 s, .slice B m d]] w fun e w' => e = .returned (.bool true) ∧ Keeps None w w' := by
  have r1 := run_str ((h1.alloc (.cells #[.int .i64 k, .int .i64 s, .slice A n c] 39)).alloc (.cells #[.int .i64 k, .int .i64 s, .slice B m d] 39))
  have r2 := run_str ((h2.alloc (.cells #[.int .i64 k, .int .i64 s, .slice A n c] 39)).alloc (.cells #[.int .i64 k, .int .i64 s, .slice B m d] 39))
  generalize strOf zs = sm at *
  clear h1 h2
  go_enter Try.func42, Try.ntmps42
  go_wp2
  go_ret
  exact ⟨by first | rfl | simp, ((Keeps.refl None w).alloc _).alloc _⟩

set_option maxRecDepth 100000 in
set_option maxHeartbeats 3200000 in
theorem back5_any (k s : Int) (A B : Option Addr) (n cap m cap2 : Nat) (zs ms : List Int) (cut : Int) (W : World) (h : Bs W A n cap zs) (h2 : Bs W B m cap2 ms) :
    Calls Try.prog 8 #[.agg #[.int .i64 k, .int .i64 s, .slice A n cap], .slice B m cap2, .int .i64 cut] W fun e w' => e = .returned (.bool true) ∧ Below W.heap.size W w' := by
  have ALV : Hid (∀ w, Calls Try.prog 37 #[] w fun e w' => e = .returned (.bool true) ∧ Keeps None w w') := alive5_any
  have hle := h.le
  have hmx := h.max
  have hle2 := h2.le
  have hmx2 := h2.max
  have hlen := h.len
  have H1 := Lib.hid h
  have H2 := Lib.hid h2
  have PUT := Lib.hid (fun w hh => sput_all k s A n cap zs w hh)
  by_cases g1 : 600 < n
  · have d1 : decide (600 < (n : Int)) = true := decide_eq_true (by omega)
    clear hlen
    clear h h2
    go_enter Try.func8, Try.ntmps8
    go_wp2_with fail
    refine (ALV.out _).mono ?_
    rintro e w1 ⟨rfl, hk1⟩
    have X1 := Lib.hid (((Keeps.refl None W).alloc (.cells #[.int .i64 k, .int .i64 s, .slice A n cap] 39)).trans hk1 (T := None) (fun _ h => h) (fun _ _ h => h))
    have R1 := Lib.hid (hk1.blk (Blk.new W [.int .i64 k, .int .i64 s, .slice A n cap] 39) (fun h => h))
    have y0 := R1.out.cellD 0 _ rfl
    have y1 := R1.out.cellD 1 _ rfl
    have y2 := R1.out.cellD 2 _ rfl
    clear hk1
    go_wp2_with fail
    refine (PUT.out _ (H1.out.keeps X1.out (fun _ _ _ _ _ h => h))).mono ?_
    rintro e w2 ⟨v2, rfl, o2, k2⟩
    obtain ⟨A2, cap2', rfl, bs2, -⟩ := o2.shape
    have X2 := Lib.hid (X1.out.trans k2 (T := None) (fun _ h => h) (fun _ _ h => h))
    have R2 := Lib.hid (k2.blk R1.out (fun h => h))
    have P2 := Lib.hid bs2
    have z0 := R2.out.cellD 0 _ rfl
    have z1 := R2.out.cellD 1 _ rfl
    have z2 := R2.out.cellD 2 _ rfl
    clear o2 k2 bs2 X1 R1 y0 y1 y2
    go_wp2
    go_ret
    exact ⟨rfl, X2.out.below (fun _ _ h => h)⟩
  have d1 : decide (600 < (n : Int)) = false := decide_eq_false (by omega)
  by_cases g2 : 100 < m
  · have d2 : decide (100 < (m : Int)) = true := decide_eq_true (by omega)
    clear hlen
    clear h h2
    go_enter Try.func8, Try.ntmps8
    go_wp2_with fail
    refine (ALV.out _).mono ?_
    rintro e w1 ⟨rfl, hk1⟩
    have X1 := Lib.hid (((Keeps.refl None W).alloc (.cells #[.int .i64 k, .int .i64 s, .slice A n cap] 39)).trans hk1 (T := None) (fun _ h => h) (fun _ _ h => h))
    have R1 := Lib.hid (hk1.blk (Blk.new W [.int .i64 k, .int .i64 s, .slice A n cap] 39) (fun h => h))
    have y0 := R1.out.cellD 0 _ rfl
    have y1 := R1.out.cellD 1 _ rfl
    have y2 := R1.out.cellD 2 _ rfl
    clear hk1
    go_wp2_with fail
    refine (PUT.out _ (H1.out.keeps X1.out (fun _ _ _ _ _ h => h))).mono ?_
    rintro e w2 ⟨v2, rfl, o2, k2⟩
    obtain ⟨A2, cap2', rfl, bs2, -⟩ := o2.shape
    have X2 := Lib.hid (X1.out.trans k2 (T := None) (fun _ h => h) (fun _ _ h => h))
    have R2 := Lib.hid (k2.blk R1.out (fun h => h))
    have P2 := Lib.hid bs2
    have z0 := R2.out.cellD 0 _ rfl
    have z1 := R2.out.cellD 1 _ rfl
    have z2 := R2.out.cellD 2 _ rfl
    clear o2 k2 bs2 X1 R1 y0 y1 y2
    go_wp2
    go_ret
    exact ⟨rfl, X2.out.below (fun _ _ h => h)⟩
  have d2 : decide (100 < (m : Int)) = false := decide_eq_false (by omega)
  by_cases hf : fitsR k s zs.length
  case neg =>
    have e0 : putL k s zs = [] := if_neg hf
    rw [e0] at PUT
    clear hlen e0 hf
    clear h h2
    go_enter Try.func8, Try.ntmps8
    go_wp2_with fail
    refine (ALV.out _).mono ?_
    rintro e w1 ⟨rfl, hk1⟩
    have X1 := Lib.hid (((Keeps.refl None W).alloc (.cells #[.int .i64 k, .int .i64 s, .slice A n cap] 39)).trans hk1 (T := None) (fun _ h => h) (fun _ _ h => h))
    have R1 := Lib.hid (hk1.blk (Blk.new W [.int .i64 k, .int .i64 s, .slice A n cap] 39) (fun h => h))
    have y0 := R1.out.cellD 0 _ rfl
    have y1 := R1.out.cellD 1 _ rfl
    have y2 := R1.out.cellD 2 _ rfl
    clear hk1
    go_wp2_with fail
    refine (PUT.out _ (H1.out.keeps X1.out (fun _ _ _ _ _ h => h))).mono ?_
    rintro e w2 ⟨v2, rfl, o2, k2⟩
    obtain ⟨A2, cap2', rfl, bs2, -⟩ := o2.shape
    have X2 := Lib.hid (X1.out.trans k2 (T := None) (fun _ h => h) (fun _ _ h => h))
    have R2 := Lib.hid (k2.blk R1.out (fun h => h))
    have P2 := Lib.hid bs2
    have z0 := R2.out.cellD 0 _ rfl
    have z1 := R2.out.cellD 1 _ rfl
    have z2 := R2.out.cellD 2 _ rfl
    clear o2 k2 bs2 X1 R1 y0 y1 y2
    have P3 : Bs w2 A2 0 cap2' [] := P2.out
    simp only [List.length_nil]
    go_wp2
    go_ret
    exact ⟨rfl, X2.out.below (fun _ _ h => h)⟩
  by_cases g3 : cut < 0
  · have d3 : decide (cut < 0) = true := decide_eq_true g3
    have pl := putL_len k s zs hf
    have q0 : (((putL k s zs).length : Int) == 0) = false := by
      have : sizeZ zs.length = 16 + ((zs.length : Int) + 7) / 8 * 8 := if_neg (by have := hf.2.2.2.2; omega)
      simp; intro e; rw [e] at pl; simp at pl; omega
    clear hlen hf pl
    generalize putL k s zs = PL at *
    clear h h2
    go_enter Try.func8, Try.ntmps8
    go_wp2_with fail
    refine (ALV.out _).mono ?_
    rintro e w1 ⟨rfl, hk1⟩
    have X1 := Lib.hid (((Keeps.refl None W).alloc (.cells #[.int .i64 k, .int .i64 s, .slice A n cap] 39)).trans hk1 (T := None) (fun _ h => h) (fun _ _ h => h))
    have R1 := Lib.hid (hk1.blk (Blk.new W [.int .i64 k, .int .i64 s, .slice A n cap] 39) (fun h => h))
    have y0 := R1.out.cellD 0 _ rfl
    have y1 := R1.out.cellD 1 _ rfl
    have y2 := R1.out.cellD 2 _ rfl
    clear hk1
    go_wp2_with fail
    refine (PUT.out _ (H1.out.keeps X1.out (fun _ _ _ _ _ h => h))).mono ?_
    rintro e w2 ⟨v2, rfl, o2, k2⟩
    obtain ⟨A2, cap2', rfl, bs2, -⟩ := o2.shape
    have X2 := Lib.hid (X1.out.trans k2 (T := None) (fun _ h => h) (fun _ _ h => h))
    have R2 := Lib.hid (k2.blk R1.out (fun h => h))
    have P2 := Lib.hid bs2
    have z0 := R2.out.cellD 0 _ rfl
    have z1 := R2.out.cellD 1 _ rfl
    have z2 := R2.out.cellD 2 _ rfl
    clear o2 k2 bs2 X1 R1 y0 y1 y2
    go_wp2
    go_ret
    exact ⟨rfl, X2.out.below (fun _ _ h => h)⟩
  obtain ⟨ct, rfl⟩ : ∃ c : Nat, cut = c := ⟨cut.toNat, by omega⟩
  have d3 : decide ((ct : Int) < 0) = false := decide_eq_false g3
  have pl := putL_len k s zs hf
  have h512 := hf.2.2.2.2
  have sz1 : sizeZ zs.length = 16 + ((zs.length : Int) + 7) / 8 * 8 := if_neg (by omega)
  have GP := Lib.hid (get_put k s zs ms hf)
  have GF := Lib.hid (fun c hc => get_front k s zs hf c hc)
  have SZ := Lib.hid (fun w => ssize_any n w)
  subst hlen
  have pl2 : (putL k s zs).length ≤ 600 := by omega
  have pl3 : 16 ≤ (putL k s zs).length := by omega
  rw [← pl] at GP SZ
  clear pl sz1 hf
  generalize putL k s zs = PL at *
  obtain ⟨L, hL⟩ : ∃ L, PL.length = L := ⟨_, rfl⟩
  rw [hL] at GP SZ GF pl2 pl3
  have HLL := Lib.hid hL
  clear hL
  have q0 : ((L : Int) == 0) = false := by simp; omega
  obtain ⟨c, hc⟩ : ∃ c, ct % L = c := ⟨_, rfl⟩
  have c1 : (ct : Int) % L = c := by omega
  have c2 : Int.tmod (ct : Int) L = c := by rw [Int.tmod_eq_emod_of_nonneg (by omega)]; exact c1
  have cL : c < L := by rw [← hc]; exact Nat.mod_lt _ (by omega)
  clear hc
  clear h h2
  go_enter Try.func8, Try.ntmps8
  go_wp2_with fail
  refine (ALV.out _).mono ?_
  rintro e w1 ⟨rfl, hk1⟩
  have X1 := Lib.hid (((Keeps.refl None W).alloc (.cells #[.int .i64 k, .int .i64 s, .slice A zs.length cap] 39)).trans hk1 (T := None) (fun _ h => h) (fun _ _ h => h))
  have R1 := Lib.hid (hk1.blk (Blk.new W [.int .i64 k, .int .i64 s, .slice A zs.length cap] 39) (fun h => h))
  have y0 := R1.out.cellD 0 _ rfl
  have y1 := R1.out.cellD 1 _ rfl
  have y2 := R1.out.cellD 2 _ rfl
  clear hk1
  go_wp2_with fail
  refine (PUT.out _ (H1.out.keeps X1.out (fun _ _ _ _ _ h => h))).mono ?_
  rintro e w2 ⟨v2, rfl, o2, k2⟩
  obtain ⟨A2, cap2', rfl, bs2, -⟩ := o2.shape
  have X2 := Lib.hid (X1.out.trans k2 (T := None) (fun _ h => h) (fun _ _ h => h))
  have R2 := Lib.hid (k2.blk R1.out (fun h => h))
  have P2 := Lib.hid bs2
  have z0 := R2.out.cellD 0 _ rfl
  have z1 := R2.out.cellD 1 _ rfl
  have z2 := R2.out.cellD 2 _ rfl
  clear o2 k2 bs2 X1 R1 y0 y1 y2
  have P2' : Hid (Bs w2 A2 L cap2' PL) := by have := P2.out; rwa [HLL.out] at this
  rw [HLL.out]
  clear P2
  have cle := P2'.out.le
  have cmx := P2'.out.max
  go_wp2_with (at_builtin; refine Hid.out ?_)
  refine Lib.hid ?_
  refine wpList_append_bs (Own.nil _ w2.heap.size) P2'.out (by simp; omega) (Nat.le_refl _) rfl rfl rfl rfl rfl ?_
  intro v3 w3 ho3 hk3
  rw [List.nil_append] at ho3
  have N3 : Hid (Keeps None w2 w3) := hk3.mono (fun i hi e => by simp [Value.ownBlock] at e)
  have X3 := Lib.hid (X2.out.trans N3.out (T := None) (fun _ h => h) (fun _ _ h => h))
  have O3 := Lib.hid ho3
  clear ho3 hk3
  go_wp2_with (at_builtin; refine Hid.out ?_)
  refine Lib.hid ?_
  refine wpList_append_bs O3.out (H2.out.keeps X3.out (fun _ _ _ _ _ h => h)) (by rw [HLL.out]; omega) N3.out.size rfl rfl rfl rfl rfl ?_
  intro v4 w4 ho4 hk4
  have N4 : Hid (Keeps None w2 w4) := N3.out.trans hk4 (fun _ h => h) (fun i hi e => absurd e (O3.out.notBelow hi))
  have X4 := Lib.hid (X2.out.trans N4.out (T := None) (fun _ h => h) (fun _ _ h => h))
  have R4 := Lib.hid (N4.out.blk R2.out (fun h => h))
  have P4 := Lib.hid (P2'.out.keeps N4.out (fun _ _ _ _ _ h => h))
  obtain ⟨A4, cap4, rfl, bs4, -⟩ := ho4.shape
  have l4 : (PL ++ ms).length ≤ 1000000 := by
    have := H2.out.len
    rw [List.length_append, HLL.out]; omega
  obtain ⟨L4, hL4⟩ : ∃ x, (PL ++ ms).length = x := ⟨_, rfl⟩
  rw [hL4] at bs4 l4 ⊢
  have B4 := Lib.hid bs4
  clear hL4
  clear ho4 hk4 bs4 O3 N3 X3 N4 R2 X2 P2'
  go_wp2_with fail
  refine (sget_any A4 _ cap4 (PL ++ ms) w4 B4.out l4).mono ?_
  rintro e w5 ⟨k', s', v5, bl, nn, ok, rfl, o5, k5, hg⟩
  have hg2 : ok = true ∧ k' = k ∧ s' = s ∧ bl = zs ∧ nn = L := by
    rcases hg with ⟨h1, h2⟩ | ⟨_, h2, _⟩
    · rw [GP.out] at h2
      simp only [Option.some.injEq, Prod.mk.injEq] at h2
      exact ⟨h1, h2.1.symm, h2.2.1.symm, h2.2.2.1.symm, h2.2.2.2.symm⟩
    · rw [GP.out] at h2; cases h2
  obtain ⟨rfl, rfl, rfl, rfl, rfl⟩ := hg2
  obtain ⟨A5, cap5, rfl, bs5, -⟩ := o5.shape
  have X5 := Lib.hid (X4.out.trans k5 (T := None) (fun _ h => h) (fun _ _ h => h))
  have R5 := Lib.hid (k5.blk R4.out (fun h => h))
  have P5 := Lib.hid (P4.out.keeps k5 (fun _ _ _ _ _ h => h))
  have B5 := Lib.hid bs5
  clear o5 k5 hg bs5 X4 R4 P4 B4 GP z0 z1 z2
  go_wp2_with fail
  refine (sget_any A2 c cap2' (PL.take c) _ ((P5.out.alloc _).take (Nat.le_of_lt cL)) (by omega)).mono ?_
  rintro e w6 ⟨kq, sq, v6, blq, nq, okq, rfl, o6, k6, hg⟩
  have hg2 : okq = false ∧ kq = 0 ∧ sq = 0 ∧ blq = [] ∧ nq = 0 := by
    rcases hg with ⟨_, h2⟩ | ⟨h1, _, h3, h4, h5, h6⟩
    · rw [GF.out c cL] at h2; cases h2
    · exact ⟨h1, h3, h4, h5, h6⟩
  obtain ⟨rfl, rfl, rfl, rfl, rfl⟩ := hg2
  obtain ⟨A6, cap6, hv6, -, -⟩ := o6.shape
  have hv6' : v6 = .slice A6 0 cap6 := hv6
  subst hv6'
  clear hv6
  have X6 := Lib.hid ((X5.out.alloc (.cells #[.int .i64 k', .int .i64 s', .slice A5 bl.length cap5] 39)).trans k6 (T := None) (fun _ h => h) (fun _ _ h => h))
  have R6 := Lib.hid (k6.blk (R5.out.alloc (.cells #[.int .i64 k', .int .i64 s', .slice A5 bl.length cap5] 39)) (fun h => h))
  have N6 := Lib.hid (k6.blk (Blk.new w5 [.int .i64 k', .int .i64 s', .slice A5 bl.length cap5] 39) (fun h => h))
  have B6 := Lib.hid ((B5.out.alloc (.cells #[.int .i64 k', .int .i64 s', .slice A5 bl.length cap5] 39)).keeps k6 (fun _ _ _ _ _ h => h))
  have r0 := R6.out.cellD 0 _ rfl
  have r1 := R6.out.cellD 1 _ rfl
  have r2 := R6.out.cellD 2 _ rfl
  have n0 := N6.out.cellD 0 _ rfl
  have n1 := N6.out.cellD 1 _ rfl
  have n2 := N6.out.cellD 2 _ rfl
  have lt1 := R6.out.lt
  have lt2 := N6.out.lt
  clear o6 k6 hg X5 R5 P5 B5 GF PUT
  go_wp2_with fail
  refine (SZ.out _).mono ?_
  rintro e w' ⟨rfl, rfl⟩
  go_wp2_with fail
  refine (rsame_yes k' s' A5 A _ cap5 _ cap bl _ (B6.out.alloc _) ((H1.out.keeps X6.out (fun _ _ _ _ _ h => h)).alloc _)).mono ?_
  rintro e w7 ⟨rfl, k7⟩
  have X7 := Lib.hid ((X6.out.alloc _).trans k7 (T := None) (fun _ h => h) (fun _ _ h => h))
  clear k7
  go_wp2
  go_ret
  exact ⟨by first | rfl | simp, X7.out.below (fun _ _ h => h)⟩
set_option maxRecDepth 100000 in
theorem SealBack_lifted (os : Os) (started : os.Started) (H : Type) (enc : TypeId × Value → H) :
    ReturnsInHanded {} Try.checked os 8 .any (Rows.sealBackSpec.pre6 enc Try.prog Try.f8 Rows.sealBackRow.domain false) (Rows.sealBackSpec.post enc Try.prog Try.f8 false true false false) := by
  refine returnsInHanded_of_change (C := Try.checked) Try.own started (by kernel_rfl) Try.func8
    (ChangeSpec.witness6 (enc := enc) (C := Try.checked) false ⟨#[], #[.agg #[.int .i64 0, .int .i64 0, .slice none 0 0], .slice none 0 0, .int .i64 0], []⟩ 8 (by kernel_rfl) (by kernel_rfl) (by kernel_rfl) (by kernel_rfl)) ?_
  intro W base args ds gs before hval0 hW hcnd _
  have hval : ∀ (j : Nat) t v, Try.f8.params[j]? = some t → args[j]? = some v → Value.okWide Try.prog W .any base t v := hval0
  have hW' := hW
  obtain ⟨p, q, hA0, hV, rfl, hfz, hnd⟩ := hW
  have hA : DataW.TrodAll enc Try.prog W 0 (fun _ => true) true Try.f8.params.toList args.toList ds p := hA0
  rw [Try.params8] at hA hval
  obtain ⟨v0, vs0, d0, ds0, p0, q0, hargs, rfl, rfl, h0, r0⟩ := trodAll_cons hA
  obtain ⟨v1, vs1, d1, ds1, p1, q1, rfl, rfl, rfl, h1, r1⟩ := trodAll_cons r0
  obtain ⟨v2, vs2, d2, ds2, p2, q2, rfl, rfl, rfl, h2, r2⟩ := trodAll_cons r1
  obtain ⟨rfl, rfl, rfl⟩ := trodAll_nil r2
  obtain rfl : args = #[v0, v1, v2] := by cases args; simp_all
  obtain ⟨rfl, rfl⟩ := trodVars_none hV
  have k0 := h0
  have lt0 : ∀ x ∈ p0, x.block < W.heap.size := by obtain ⟨m, hm⟩ := k0; exact DataW.trod_lt m _ _ _ hm
  obtain ⟨rk0, rs0, a0, len0, cap0, z0, rfl, s0⟩ := open_record (hval 0 39 v0 rfl rfl) h0
  have k1 := h1
  have lt1 : ∀ x ∈ p1, x.block < W.heap.size := by obtain ⟨m, hm⟩ := k1; exact DataW.trod_lt m _ _ _ hm
  obtain ⟨a1, len1, cap1, rfl⟩ := okWide_slice Try.underlying22 (hval 1 22 v1 rfl rfl)
  obtain ⟨z1, s1⟩ := open_bs h1
  have k2 := h2
  have lt2 : ∀ x ∈ p2, x.block < W.heap.size := by obtain ⟨m, hm⟩ := k2; exact DataW.trod_lt m _ _ _ hm
  obtain ⟨a2, rfl, rfl, rfl, w2⟩ := open_int Try.underlying3 (hval 2 3 v2 rfl rfl) h2
  clear hA0 hval0
  refine (back5_any rk0 rs0 a0 a1 len0 cap0 len1 cap1 z0 z1 a2 W s0 s1).mono fun e W' ⟨he, bel⟩ => ?_
  subst he
  exact ⟨_, rfl, _, _, _, [], _, [], hW', trodAll_mk1 (shut_bool Try.underlying4 _), (trodAll_cons_mk (Below.trod Try.laidOut (by kernel_rfl) (of_decide_eq_true (by kernel_rfl)) k0 bel lt0) (trodAll_cons_mk (Below.trod Try.laidOut (by kernel_rfl) (of_decide_eq_true (by kernel_rfl)) k1 bel lt1) (trodAll_cons_mk (Below.trod Try.laidOut (by kernel_rfl) (of_decide_eq_true (by kernel_rfl)) k2 bel lt2) trodAll_mk0))), rfl, bel.frame _, fun h => by cases h⟩

set_option maxRecDepth 100000 in
theorem SealBack_closed : joinedFacts Try.checked.prog 8 Try.f8 Rows.sealBackSpec Rows.sealBackRow = true := by
  unfold joinedFacts
  rw [closed_laid, closed_maps, closed_heard, closed_plain, closed_mayEnter, closed_lifts, closed_make]
  kernel_rfl

theorem SealBack_holds : Rows.SealBackSaid :=
  OpenClaim.holds_of_wide 8 Try.f8 rfl rfl rfl rfl rfl rfl rfl ⟨rfl, rfl, rfl, rfl, rfl⟩ rfl rfl rfl rfl rfl (by kernel_rfl) Try.func8 SealBack_closed
    (of_decide_eq_true (by kernel_rfl)) (by unfold Func.isWrapper; first | (rw [if_pos (by decide +kernel)]; kernel_rfl) | (rw [if_neg (by decide +kernel)]; exact ⟨rfl, rfl⟩))
    (fun os started H enc _ => SealBack_lifted os started H enc)
#print axioms SealBack_holds
end Go.Proofs.Yteogaacdmoafpaa
