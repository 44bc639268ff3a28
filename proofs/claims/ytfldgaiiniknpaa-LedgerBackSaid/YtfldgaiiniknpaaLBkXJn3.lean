
/- The walk of journal's read. -/
import Derived.Test.YtfldgaiiniknpaaLBkd
namespace Go.Proofs.Ytfldgaiiniknpaa
open Go.RowKit

set_option maxRecDepth 100000 in
set_option maxHeartbeats 3200000 in
theorem jread_any (B q : Nat) (X : JX) (s : FS) (j : JS) (A : Option Addr) (cap : Nat) (zs : List Int) (w : World) (h : JAt w B q X s j) (hb : Bs w A 1024 cap zs) (hs : ∀ b off, A = some ⟨b, off, none⟩ → ¬ X.S b) (hl : j.l.length ≤ 1000) :
    Calls Try.prog 64 #[.pointer (some ⟨X.jb, 0, none⟩), .slice A 1024 cap] w fun e w' => e = .returned (.tuple #[]) ∧ ∃ X', JStay w w' B q X X' s { j with l := j.l ++ (parseF 64 zs 16).1, used := (parseF 64 zs 16).2, torn := !blankB (zs.drop (parseF 64 zs 16).2) } := by
  have hle := hb.le
  have hmx := hb.max
  have HL := Lib.hid hb.len
  obtain ⟨bl, off, he, hblt, -⟩ := hb.at_ (by decide)
  subst he
  have HB := Lib.hid hb
  have NS := Lib.hid (hs bl off rfl)
  have HLT := Lib.hid hblt
  obtain ⟨L, jb, lv, rs⟩ := X
  dsimp only at h hs ⊢
  have y6 := h.c.cellD 6 _ rfl
  have f6 := h.c.frozen 6
  have P6 := Lib.hid (h.put (j' := { j with used := 16 }) 6 (.int .i64 16) rfl rfl)
  dsimp only at y6 f6 P6
  clear h hb hs hblt
  go_enter Try.func64, Try.ntmps64
  go_wp2
  go_step3
  go_wp2
  go_step3
  go_wp2
  go_loopg [] 64 (fun g wr => ∃ (X1 : JX) (u : Nat) (pre : List Rec), g ≤ 64 ∧ 16 + 16 * (64 - g) ≤ u ∧ u ≤ 1024 ∧ JStay w wr B q ⟨L, jb, lv, rs⟩ X1 s { j with l := j.l ++ pre, used := u } ∧ pre ++ (parseF g zs u).1 = (parseF 64 zs 16).1 ∧ (parseF g zs u).2 = (parseF 64 zs 16).2 ∧ pre.length ≤ 64 - g)
  case atStart => exact ⟨⟨L, jb, lv, rs⟩, 16, [], Nat.le_refl _, Nat.le_refl _, by decide, by simpa using P6.out, rfl, rfl, Nat.zero_le _⟩
  case round =>
    clear P6 y6 f6
    obtain ⟨X1, u, pre, hg1, hg2, hu, ht, hp1, hp2, hpl⟩ := hrel
    obtain ⟨wv, rfl⟩ : ∃ x, x = wr := ⟨_, rfl⟩
    obtain ⟨G, rfl⟩ : ∃ G, gk = G + 1 := ⟨gk - 1, by omega⟩
    obtain ⟨L1, jb1, lv1, rs1⟩ := X1
    obtain rfl : jb1 = jb := ht.jb
    have T1 := Lib.hid ht
    have PAR1 := Lib.hid hp1
    have PAR2 := Lib.hid hp2
    have y6 := ht.at_.c.cellD 6 _ rfl
    try dsimp only at y6
    have BV := Lib.hid (HB.out.keeps ht.keeps (fun b off h0 _ e hS => by cases e; exact NS.out hS))
    have NS1 : Hid (¬ JX.S ⟨L1, jb1, lv1, rs1⟩ bl) := fun hS => by
      rcases ht.o bl hS with h1 | h1
      · exact NS.out h1
      · have := HLT.out; omega
    clear ht hp1 hp2
    by_cases hcu : cap = u
    · obtain rfl : u = 1024 := by omega
      subst hcu
      have SL : Hid (Bs wv (some ⟨bl, off, none⟩) (1024 - 1024) (1024 - 1024) (zs.drop 1024)) := by have := BV.out.dropIf (k := 1024) (by omega); rwa [if_pos rfl] at this
      have SEP : Hid (∀ b o, 0 < 1024 - 1024 → some ⟨bl, off, none⟩ = some (⟨b, o, none⟩ : Addr) → ¬ JX.S ⟨L1, jb1, lv1, rs1⟩ b) := fun b o h => absurd h (by decide)
      have SL : Hid (Bs wv (some ⟨bl, off, none⟩) 0 0 (zs.drop 1024)) := SL
      have SEP : Hid (∀ b o, 0 < 0 → some ⟨bl, off, none⟩ = some (⟨b, o, none⟩ : Addr) → ¬ JX.S ⟨L1, jb1, lv1, rs1⟩ b) := fun b o h => absurd h (by decide)
      -- some ⟨bl, off, none⟩ the pointer behind the slice b[used:]
      have SLK : Hid (∀ w', Keeps (JX.S ⟨L1, jb1, lv1, rs1⟩) wv w' → Bs w' (some ⟨bl, off, none⟩) (0) (0) (zs.drop (1024))) := fun w' hk => SL.out.keeps hk (fun b off h0 _ e => SEP.out b off h0 e)
      clear SEP
      go_wp2_with fail
      refine (sget_any (some ⟨bl, off, none⟩) (0) (0) _ wv SL.out (by omega)).mono ?_
      rintro e w2 ⟨k, s', v, bl2, m, ok, rfl, o2, k2, hg⟩
      obtain ⟨A2, c2, rfl, b2, in2⟩ := o2.shape
      have l2 := b2.le
      have m2 := b2.max
      have B2 := Lib.hid b2
      have I2 := Lib.hid in2
      have K2 := Lib.hid k2
      obtain ⟨n2, HN2⟩ : ∃ x, Hid (bl2.length = x) := ⟨_, rfl⟩
      rw [HN2.out] at l2 B2 ⊢
      clear o2 k2 b2 in2
      by_cases hpush : ok = true ∧ k ≠ 1
      · obtain ⟨rfl, hk1⟩ := hpush
        have hs : getL (zs.drop (1024)) = some (k, s', bl2, m) := by
          rcases hg with ⟨-, h2⟩ | ⟨h1, -⟩
          · exact h2
          · cases h1
        clear hg
        obtain ⟨hfit, -, hm16, hml, -, -⟩ := get_full hs
        rw [List.length_drop, HL.out] at hml
        obtain ⟨mm, rfl⟩ : ∃ mm : Nat, m = mm := ⟨m.toNat, by omega⟩
        exact absurd hm16 (by omega)
      · have PE : Hid (parseF (G + 1) zs (1024) = ([], (1024))) := by
          show _ = _
          conv => lhs; unfold parseF
          rcases hg with ⟨h1, h2⟩ | ⟨h1, h2, -⟩
          · rw [h2]; simp only; rw [if_pos]
            exact Classical.byContradiction fun hk => hpush ⟨h1, hk⟩
          · rw [h2]
        clear hg
        cases ok with
        | false =>
          skip
          -- the sector's records end here: some ⟨bl, off, none⟩ the pointer behind the slice b[used:]
          have J3 := Lib.hid (T1.out.later (K2.out.alloc (.cells #[.int .i64 (k), .int .i64 s', .slice A2 n2 c2] 58)))
          have y6 := J3.out.at_.c.cellD 6 _ rfl
          have y7 := J3.out.at_.c.cellD 7 _ rfl
          have f7 := J3.out.at_.c.frozen 7
          try dsimp only at y6 y7
          have SL2 := Lib.hid (SLK.out _ (K2.out.mono (fun _ _ h => h.elim)))
          have BK := Lib.hid (fun w' h' => isBlank_any (some ⟨bl, off, none⟩) (0) (0) (zs.drop (1024)) w' h')
          obtain ⟨bb, HBB⟩ : ∃ x, Hid (blankB (zs.drop (1024)) = x) := ⟨_, rfl⟩
          rw [HBB.out] at BK
          go_wp2_with fail
          refine (BK.out _ (SL2.out.alloc _)).mono ?_
          rintro e w' ⟨rfl, rfl⟩
          have P7 := Lib.hid (J3.out.at_.put (j' := { j with l := j.l ++ pre, used := (1024), torn := !bb }) 7 (.bool (!bb)) rfl rfl)
          try dsimp only at P7
          go_wp2
          all_goals try rw [Exit.noGoto_normal]
          go_end0
          have hu : (parseF 64 zs 16).2 = (1024) := PAR2.out.symm.trans (by rw [PE.out])
          refine ⟨rfl, ⟨L1, jb1, lv1, rs1⟩, ?_⟩
          rw [hu, ← PAR1.out, PE.out, List.append_nil, HBB.out]
          exact J3.out.trans P7.out
        | true =>
          obtain rfl : k = 1 := Classical.byContradiction fun hk => hpush ⟨rfl, hk⟩
          -- the sector's records end here: some ⟨bl, off, none⟩ the pointer behind the slice b[used:]
          have J3 := Lib.hid (T1.out.later (K2.out.alloc (.cells #[.int .i64 (1), .int .i64 s', .slice A2 n2 c2] 58)))
          have y6 := J3.out.at_.c.cellD 6 _ rfl
          have y7 := J3.out.at_.c.cellD 7 _ rfl
          have f7 := J3.out.at_.c.frozen 7
          try dsimp only at y6 y7
          have SL2 := Lib.hid (SLK.out _ (K2.out.mono (fun _ _ h => h.elim)))
          have BK := Lib.hid (fun w' h' => isBlank_any (some ⟨bl, off, none⟩) (0) (0) (zs.drop (1024)) w' h')
          obtain ⟨bb, HBB⟩ : ∃ x, Hid (blankB (zs.drop (1024)) = x) := ⟨_, rfl⟩
          rw [HBB.out] at BK
          go_wp2_with fail
          refine (BK.out _ (SL2.out.alloc _)).mono ?_
          rintro e w' ⟨rfl, rfl⟩
          have P7 := Lib.hid (J3.out.at_.put (j' := { j with l := j.l ++ pre, used := (1024), torn := !bb }) 7 (.bool (!bb)) rfl rfl)
          try dsimp only at P7
          go_wp2
          all_goals try rw [Exit.noGoto_normal]
          go_end0
          have hu : (parseF 64 zs 16).2 = (1024) := PAR2.out.symm.trans (by rw [PE.out])
          refine ⟨rfl, ⟨L1, jb1, lv1, rs1⟩, ?_⟩
          rw [hu, ← PAR1.out, PE.out, List.append_nil, HBB.out]
          exact J3.out.trans P7.out
    · have SL := Lib.hid (BV.out.drop (k := u) (by omega))
      have SEP : Hid (∀ b o, 0 < 1024 - u → some ⟨bl, off + u, none⟩ = some (⟨b, o, none⟩ : Addr) → ¬ JX.S ⟨L1, jb1, lv1, rs1⟩ b) := fun b o _ e hS => by cases e; exact NS1.out hS
      -- some ⟨bl, off + u, none⟩ the pointer behind the slice b[used:]
      have SLK : Hid (∀ w', Keeps (JX.S ⟨L1, jb1, lv1, rs1⟩) wv w' → Bs w' (some ⟨bl, off + u, none⟩) (1024 - u) (cap - u) (zs.drop (u))) := fun w' hk => SL.out.keeps hk (fun b off h0 _ e => SEP.out b off h0 e)
      clear SEP
      go_wp2_with fail
      refine (sget_any (some ⟨bl, off + u, none⟩) (1024 - u) (cap - u) _ wv SL.out (by omega)).mono ?_
      rintro e w2 ⟨k, s', v, bl2, m, ok, rfl, o2, k2, hg⟩
      obtain ⟨A2, c2, rfl, b2, in2⟩ := o2.shape
      have l2 := b2.le
      have m2 := b2.max
      have B2 := Lib.hid b2
      have I2 := Lib.hid in2
      have K2 := Lib.hid k2
      obtain ⟨n2, HN2⟩ : ∃ x, Hid (bl2.length = x) := ⟨_, rfl⟩
      rw [HN2.out] at l2 B2 ⊢
      clear o2 k2 b2 in2
      by_cases hpush : ok = true ∧ k ≠ 1
      · obtain ⟨rfl, hk1⟩ := hpush
        have hs : getL (zs.drop (u)) = some (k, s', bl2, m) := by
          rcases hg with ⟨-, h2⟩ | ⟨h1, -⟩
          · exact h2
          · cases h1
        clear hg
        obtain ⟨hfit, -, hm16, hml, -, -⟩ := get_full hs
        rw [List.length_drop, HL.out] at hml
        obtain ⟨mm, rfl⟩ : ∃ mm : Nat, m = mm := ⟨m.toNat, by omega⟩
        have PS : Hid (parseF (G + 1) zs (u) = (⟨k, s', bl2⟩ :: (parseF G zs ((u) + mm)).1, (parseF G zs ((u) + mm)).2)) := by
          show _ = _
          conv => lhs; unfold parseF
          rw [hs]; simp only [if_neg hk1, Int.toNat_natCast]
        have e1 : (k == 1) = false := by simpa using hk1
        have e1n : (k != 1) = true := by simpa using hk1
        have hrl : rs1.length ≤ 1100 := by
          have e := congrArg List.length T1.out.at_.recs
          rw [List.length_map] at e
          simp only [List.length_append] at e
          omega
        clear hs hk1 hfit
        go_wp2
        obtain ⟨w3, hw3⟩ : ∃ x, w2.alloc (.cells #[.int .i64 k, .int .i64 s', .slice A2 n2 c2] 58) = x := ⟨_, rfl⟩
        obtain ⟨nb, hnb⟩ : ∃ x, w2.heap.size = x := ⟨_, rfl⟩
        have K3 : Hid (Keeps None wv w3) := by show Keeps _ _ _; rw [← hw3]; exact K2.out.alloc _
        have N3 : Hid (Blk w3 nb [.int .i64 k, .int .i64 s', .slice A2 n2 c2] 58) := by show Blk _ _ _ _; rw [← hw3, ← hnb]; exact Blk.new _ [_, _, _] _
        have B3 : Hid (Bs w3 A2 n2 c2 bl2) := by show Bs _ _ _ _ _; rw [← hw3]; exact B2.out.alloc _
        have W23 : Hid (w2.heap.size ≤ w3.heap.size) := by show _ ≤ _; rw [← hw3]; simp
        have NBL : Hid (wv.heap.size ≤ nb) := by show _ ≤ _; rw [← hnb]; exact K2.out.size
        rw [hw3, hnb]
        clear hw3 hnb
        have J3 := Lib.hid (T1.out.at_.later K3.out)
        obtain ⟨A5, c5, hlv, r5, -⟩ := J3.out.l.shape
        dsimp only at hlv r5
        have l5 := r5.le
        have m5 := r5.max
        obtain ⟨rl, HRL⟩ : ∃ x, Hid (rs1.length = x) := ⟨_, rfl⟩
        rw [HRL.out] at hlv l5 hrl
        have HLV := Lib.hid hlv
        clear hlv r5
        have y3 := J3.out.c.cellD 3 _ rfl
        have z6 := J3.out.c.cellD 6 _ rfl
        try dsimp only at y3 z6
        rw [HLV.out] at y3
        have hjn : Hid (jb1 < wv.heap.size) := T1.out.at_.c.lt
        obtain ⟨mmS, mmh⟩ : ∃ S : World → Prop, ∀ w', S w' ↔ (w'.cell? ⟨jb1, 3, none⟩ = some (.slice A5 rl c5) ∧ w'.cell? ⟨nb, 0, none⟩ = some (.int .i64 k) ∧ w'.cell? ⟨nb, 1, none⟩ = some (.int .i64 s') ∧ w'.cell? ⟨nb, 2, none⟩ = some (.slice A2 n2 c2)) := ⟨_, fun _ => Iff.rfl⟩
        have mmk0 : ∀ x : Memb mmS, x.at_.cell? ⟨jb1, 3, none⟩ = some (.slice A5 rl c5) := fun x => ((mmh _).1 x.is).1
        have mmk1 : ∀ x : Memb mmS, x.at_.cell? ⟨nb, 0, none⟩ = some (.int .i64 k) := fun x => ((mmh _).1 x.is).2.1
        have mmk2 : ∀ x : Memb mmS, x.at_.cell? ⟨nb, 1, none⟩ = some (.int .i64 s') := fun x => ((mmh _).1 x.is).2.2.1
        have mmk3 : ∀ x : Memb mmS, x.at_.cell? ⟨nb, 2, none⟩ = some (.slice A2 n2 c2) := fun x => ((mmh _).1 x.is).2.2.2
        have mmn : Nonempty (Memb mmS) := ⟨⟨(w3).drew, (mmh _).2 ⟨y3, N3.out.cellD 0 _ rfl, N3.out.cellD 1 _ rfl, N3.out.cellD 2 _ rfl⟩⟩⟩
        have mmH := Lib.hid mmh
        clear mmh
        refine wp_region_mix [6, 7, 10] (InS mmS) (by kernel_rfl) (by kernel_rfl) (InS.mk ((mmH.out _).2 ⟨y3, N3.out.cellD 0 _ rfl, N3.out.cellD 1 _ rfl, N3.out.cellD 2 _ rfl⟩)) ?_
        refine wpMix_seg 6 (by kernel_rfl) (by decide) ?_
        simp only [List.take_succ_cons, List.take_zero, List.drop_succ_cons, List.drop_zero]
        repeat (go_big_quiet_step (fail))
        refine wpQuiet_nil ?_
        refine wpMix_eff (by kernel_rfl) ?_
        go_wp2
        first | (refine Exists.elim (⟨_, rfl⟩ : ∃ x, (w3.alloc (.cells #[.int .i64 k, .int .i64 s', .slice A2 n2 c2] 58)).drew = x) fun w4 hw4 => ?_; rw [hw4]) | (refine Exists.elim (⟨_, rfl⟩ : ∃ x, w3.drew.alloc (.cells #[.int .i64 k, .int .i64 s', .slice A2 n2 c2] 58) = x) fun w4 hw4 => ?_; rw [hw4])
        have K4 : Hid (Keeps None w3 w4) := by show Keeps _ _ _; rw [← hw4]; first | exact ((Keeps.refl None w3).alloc _).drew | exact (Keeps.refl None w3).drew.alloc _
        have N4 : Hid (Blk w4 w3.heap.size [.int .i64 k, .int .i64 s', .slice A2 n2 c2] 58) := by show Blk _ _ _ _; rw [← hw4]; first | exact (Blk.new _ [_, _, _] _).drew | exact Blk.new w3.drew [_, _, _] _
        have M4 := Lib.hid (K4.out.blk N3.out (fun h => h))
        have J4 := Lib.hid (J3.out.later K4.out)
        have x3 := J4.out.c.cellD 3 _ rfl
        try dsimp only at x3
        rw [HLV.out] at x3
        clear hw4
        refine MixK.on (InS.mk ((mmH.out _).2 (⟨x3, M4.out.cellD 0 _ rfl, M4.out.cellD 1 _ rfl, M4.out.cellD 2 _ rfl⟩))) ?_
        refine wpMix_eff (by kernel_rfl) ?_
        go_wp2_with (at_builtin; refine Hid.out ?_)
        refine Lib.hid ?_
        refine wpList_append_recs (B := B) (rs := rs1) (ns := [⟨k, s', A2, c2, bl2⟩]) (HLV.out ▸ J4.out.l) (Rws.one _ (by show Blk _ _ [_, _, .slice A2 bl2.length c2] _; rw [HN2.out]; exact N4.out)) (by rw [HRL.out]; omega) (Nat.le_of_lt (Nat.lt_of_le_of_lt J4.out.jB J4.out.c.lt)) rfl rfl rfl rfl rfl ?_
        intro v6 w6 o6 k6 hat6
        rw [← HLV.out] at k6 hat6
        obtain ⟨A6, c6, hv6, r6, -⟩ := o6.shape
        have m6 := r6.max
        have l6 := r6.le
        have n6e : (rs1 ++ [(⟨k, s', A2, c2, bl2⟩ : RV)]).length = rl + 1 := by rw [List.length_append, HRL.out]; rfl
        rw [n6e] at hv6 l6
        subst hv6
        have PU := Lib.hid (T1.out.at_.push (K3.out.trans K4.out (T := None) (fun _ h => h) (fun _ _ h => h)) k6 o6 (hat6.imp id (fun h => ⟨_, h, Nat.le_refl _⟩)) ((show Bs w3 A2 bl2.length c2 bl2 from by rw [HN2.out]; exact B3.out).keeps K4.out (fun _ _ _ _ _ h => h)) (fun b ⟨o, h0, e⟩ => by have h1 := I2.out b o e; have h2 := (K3.out.trans K4.out (T := None) (fun _ h => h) (fun _ _ h => h)).size; have h3 := K3.out.size; have h4 := W23.out; have h5 := K4.out.size; exact ⟨h1.1, by omega⟩))
        have Y6 := Lib.hid (k6.blk J4.out.c (fun e => (J4.out.lo _ e).2 rfl))
        have M6 := Lib.hid (k6.blk M4.out (fun e => by have h1 := (T1.out.at_.l.block e).2; have h2 := NBL.out; omega))
        have x3 := Y6.out.cellD 3 _ rfl
        have g3 := Y6.out.frozen 3
        have g6 := Y6.out.frozen 6
        have x6 := Y6.out.cellD 6 _ rfl
        try dsimp only at x3 x6
        rw [HLV.out] at x3
        clear o6 k6 hat6 r6 n6e
        go_wp2
        refine MixK.on (InS.mk ((mmH.out _).2 (⟨x3, M6.out.cellD 0 _ rfl, M6.out.cellD 1 _ rfl, M6.out.cellD 2 _ rfl⟩))) ?_
        refine wpMix_seg 2 (by kernel_rfl) (by decide) ?_
        simp only [List.take_succ_cons, List.take_zero, List.drop_succ_cons, List.drop_zero]
        repeat (go_big_quiet_step (fail))
        refine wpQuiet_nil ?_
        refine wpMix_eff (by kernel_rfl) ?_
        go_wp2
        refine MixK.last (by kernel_rfl) ?_
        refine wpMix_nil ?_
        clear mmk0 mmk1 mmk2 mmk3 mmn mmH
        have P6 := Lib.hid (PU.out.at_.put (j' := { j with l := (j.l ++ pre) ++ [⟨k, s', bl2⟩], used := (u) + mm }) 6 (.int .i64 (((u) + mm : Nat) : Int)) rfl rfl)
        try dsimp only at P6
        have e6 : (((u) + mm : Nat) : Int) = ((u) : Int) + (mm : Int) := by omega
        rw [e6] at P6
        clear e6
        go_wp2
        go_roundg G
        case measure => omega
        case rel => exact ⟨⟨L1, jb1, .slice A6 (rl + 1) c6, rs1 ++ [⟨k, s', A2, c2, bl2⟩]⟩, (u) + mm, pre ++ [⟨k, s', bl2⟩], by omega, by omega, by omega, by rw [← List.append_assoc]; exact T1.out.trans (PU.out.trans P6.out), by rw [← PAR1.out, PS.out]; simp, by rw [← PAR2.out, PS.out], by rw [List.length_append, List.length_singleton]; omega⟩
      · have PE : Hid (parseF (G + 1) zs (u) = ([], (u))) := by
          show _ = _
          conv => lhs; unfold parseF
          rcases hg with ⟨h1, h2⟩ | ⟨h1, h2, -⟩
          · rw [h2]; simp only; rw [if_pos]
            exact Classical.byContradiction fun hk => hpush ⟨h1, hk⟩
          · rw [h2]
        clear hg
        cases ok with
        | false =>
          skip
          -- the sector's records end here: some ⟨bl, off + u, none⟩ the pointer behind the slice b[used:]
          have J3 := Lib.hid (T1.out.later (K2.out.alloc (.cells #[.int .i64 (k), .int .i64 s', .slice A2 n2 c2] 58)))
          have y6 := J3.out.at_.c.cellD 6 _ rfl
          have y7 := J3.out.at_.c.cellD 7 _ rfl
          have f7 := J3.out.at_.c.frozen 7
          try dsimp only at y6 y7
          have SL2 := Lib.hid (SLK.out _ (K2.out.mono (fun _ _ h => h.elim)))
          have BK := Lib.hid (fun w' h' => isBlank_any (some ⟨bl, off + u, none⟩) (1024 - u) (cap - u) (zs.drop (u)) w' h')
          obtain ⟨bb, HBB⟩ : ∃ x, Hid (blankB (zs.drop (u)) = x) := ⟨_, rfl⟩
          rw [HBB.out] at BK
          go_wp2_with fail
          refine (BK.out _ (SL2.out.alloc _)).mono ?_
          rintro e w' ⟨rfl, rfl⟩
          have P7 := Lib.hid (J3.out.at_.put (j' := { j with l := j.l ++ pre, used := (u), torn := !bb }) 7 (.bool (!bb)) rfl rfl)
          try dsimp only at P7
          go_wp2
          all_goals try rw [Exit.noGoto_normal]
          go_end0
          have hu : (parseF 64 zs 16).2 = (u) := PAR2.out.symm.trans (by rw [PE.out])
          refine ⟨rfl, ⟨L1, jb1, lv1, rs1⟩, ?_⟩
          rw [hu, ← PAR1.out, PE.out, List.append_nil, HBB.out]
          exact J3.out.trans P7.out
        | true =>
          obtain rfl : k = 1 := Classical.byContradiction fun hk => hpush ⟨rfl, hk⟩
          -- the sector's records end here: some ⟨bl, off + u, none⟩ the pointer behind the slice b[used:]
          have J3 := Lib.hid (T1.out.later (K2.out.alloc (.cells #[.int .i64 (1), .int .i64 s', .slice A2 n2 c2] 58)))
          have y6 := J3.out.at_.c.cellD 6 _ rfl
          have y7 := J3.out.at_.c.cellD 7 _ rfl
          have f7 := J3.out.at_.c.frozen 7
          try dsimp only at y6 y7
          have SL2 := Lib.hid (SLK.out _ (K2.out.mono (fun _ _ h => h.elim)))
          have BK := Lib.hid (fun w' h' => isBlank_any (some ⟨bl, off + u, none⟩) (1024 - u) (cap - u) (zs.drop (u)) w' h')
          obtain ⟨bb, HBB⟩ : ∃ x, Hid (blankB (zs.drop (u)) = x) := ⟨_, rfl⟩
          rw [HBB.out] at BK
          go_wp2_with fail
          refine (BK.out _ (SL2.out.alloc _)).mono ?_
          rintro e w' ⟨rfl, rfl⟩
          have P7 := Lib.hid (J3.out.at_.put (j' := { j with l := j.l ++ pre, used := (u), torn := !bb }) 7 (.bool (!bb)) rfl rfl)
          try dsimp only at P7
          go_wp2
          all_goals try rw [Exit.noGoto_normal]
          go_end0
          have hu : (parseF 64 zs 16).2 = (u) := PAR2.out.symm.trans (by rw [PE.out])
          refine ⟨rfl, ⟨L1, jb1, lv1, rs1⟩, ?_⟩
          rw [hu, ← PAR1.out, PE.out, List.append_nil, HBB.out]
          exact J3.out.trans P7.out
end Go.Proofs.Ytfldgaiiniknpaa
