/-
  For every row of bytes, every place and every distance, the law SqueezeBest returns true: what Best tells is there, no other distance does better, and none that is nearer as well. No condition.
-/
import Derived.Test.YteogaacdmoafpaaSq2
import Derived.Test.YteogaacdmoafpaaFrame
import Derived.Lib.SlBytesConst
namespace Go.Proofs.Yteogaacdmoafpaa
open Go.RowKit Go.ChangeShapes Go.WideShapes Go.ChangeAt

instance (zs : List Int) (a d k : Nat) : Decidable (run zs a d k) := inferInstanceAs (Decidable (∀ i, i < k → zs.getD (a + i) 0 = zs.getD (a + i - d) 0))

theorem Bs.lit (w : World) (b : Nat) (hb : b = w.heap.size) (zs : List Int) (T : TypeId) (fr : Nat × Nat) (hz : ∀ z ∈ zs, 0 ≤ z ∧ z ≤ 255) (hl : zs.length ≤ 1000000) : Bs (w.alloc (.cells (zs.map (Value.int .u8)).toArray T fr)) (some ⟨b, 0, none⟩) zs.length zs.length zs := by
  subst hb
  exact ⟨rfl, Nat.le_refl _, by omega, (fun e => by cases e), hz, fun _ => ⟨w.heap.size, 0, rfl, by simp, fun i hi => by
    rw [Nat.zero_add]
    have := (Blk.new w (zs.map (Value.int .u8)) T).cellD i _ (map_getD 0 hi)
    rw [← this]
    have e : ∀ o, (w.alloc o).heap[w.heap.size]? = some o := fun o => by
      show (w.heap.push o)[w.heap.size]? = _
      simp
    simp only [World.cell?, e]⟩⟩

def abc : List Int := [97, 98, 99, 97, 98, 99]
theorem abc0 : BestOf abc 0 0 0 := ⟨by decide, by decide, by decide, fun _ d' h1 h2 => by omega, fun d' h1 h2 => by omega⟩
theorem abc1 : BestOf abc 1 0 0 := ⟨by decide, by decide, by decide, fun _ d' h1 h2 _ _ => by
    have e : d' = 1 := by omega
    subst e; decide, fun d' h1 h2 => by omega⟩
theorem abc2 : BestOf abc 2 0 0 := ⟨by decide, by decide, by decide, fun _ d' h1 h2 _ _ => by
    obtain rfl | rfl : d' = 1 ∨ d' = 2 := by omega
    · decide
    · decide, fun d' h1 h2 => by omega⟩
theorem abc3 : BestOf abc 3 3 3 := ⟨by decide, by decide, fun _ => ⟨by decide, by decide, by decide, by decide, by decide⟩, fun h => absurd h (by decide), fun d' h1 h2 => by
    obtain rfl | rfl : d' = 1 ∨ d' = 2 := by omega
    · decide
    · decide⟩
theorem abc_to {ts : List Tok} {a : Nat} (h : TokTo abc ts a) : (a = 0 ∧ ts = []) ∨ (a = 1 ∧ ts = [⟨0, 0, 97⟩]) ∨ (a = 2 ∧ ts = [⟨0, 0, 97⟩, ⟨0, 0, 98⟩]) ∨ (a = 3 ∧ ts = [⟨0, 0, 97⟩, ⟨0, 0, 98⟩, ⟨0, 0, 99⟩]) ∨ (a = 6 ∧ ts = [⟨0, 0, 97⟩, ⟨0, 0, 98⟩, ⟨0, 0, 99⟩, ⟨3, 3, 0⟩]) := by
  induction h with
  | start => exact .inl ⟨rfl, rfl⟩
  | step h hl hb ih =>
    rcases ih with ⟨rfl, rfl⟩ | ⟨rfl, rfl⟩ | ⟨rfl, rfl⟩ | ⟨rfl, rfl⟩ | ⟨rfl, rfl⟩
    · obtain ⟨rfl, rfl⟩ := hb.uniq abc0; exact .inr (.inl ⟨rfl, rfl⟩)
    · obtain ⟨rfl, rfl⟩ := hb.uniq abc1; exact .inr (.inr (.inl ⟨rfl, rfl⟩))
    · obtain ⟨rfl, rfl⟩ := hb.uniq abc2; exact .inr (.inr (.inr (.inl ⟨rfl, rfl⟩)))
    · obtain ⟨rfl, rfl⟩ := hb.uniq abc3; exact .inr (.inr (.inr (.inr ⟨rfl, rfl⟩)))
    · exact absurd hl (by decide)

set_option maxRecDepth 100000 in
set_option maxHeartbeats 1600000 in
theorem alive21_any (w : World) : Calls Try.prog 15 #[] w fun e w' => e = .returned (.bool true) ∧ Keeps None w w' := by
  have hc : (convert 22 22 (.slice (some ⟨w.heap.size, 0, none⟩) 6 6)).run Try.prog (w.alloc (.cells #[.int .u8 97, .int .u8 98, .int .u8 99, .int .u8 97, .int .u8 98, .int .u8 99] 5)) = .ok (.slice (some ⟨w.heap.size, 0, none⟩) 6 6) (w.alloc (.cells #[.int .u8 97, .int .u8 98, .int .u8 99, .int .u8 97, .int .u8 98, .int .u8 99] 5 (6, 7))) :=
    Lib.run_convert_bytes_const (P := Try.prog) w 22 5 _ 6 6 Try.underlying22 Try.underlying5
  go_enter Try.func15, Try.ntmps15
  go_wp2_with fail
  clear hc
  refine (qtokens_any _ _ _ abc _ (Bs.lit w _ rfl abc 5 (6, 7) (by decide) (by decide)) (by decide)).mono ?_
  rintro e w1 ⟨v, ts, rfl, ht, ho, hk⟩
  have e1 : ts = [⟨0, 0, 97⟩, ⟨0, 0, 98⟩, ⟨0, 0, 99⟩, ⟨3, 3, 0⟩] := by
    rcases abc_to ht with ⟨e, _⟩ | ⟨e, _⟩ | ⟨e, _⟩ | ⟨e, _⟩ | ⟨_, e⟩
    · exact absurd e (by decide)
    · exact absurd e (by decide)
    · exact absurd e (by decide)
    · exact absurd e (by decide)
    · exact e
  subst e1
  rcases ho.2 with ⟨-, h0⟩ | ⟨g, cap, cur, rfl, hb, hg, hn, hm, hs, htk⟩
  · exact absurd h0 (by decide)
  have x9 := ho.cells (g := g) rfl 9 (.int .i64 3) rfl
  have x10 := ho.cells (g := g) rfl 10 (.int .i64 3) rfl
  have x11 := ho.cells (g := g) rfl 11 (.int .u8 0) rfl
  have f9 : (⟨g, 0, none⟩ : Addr).add 9 = ⟨g, 9, none⟩ := by unfold Addr.add; simp
  have f10 : (⟨g, 0, none⟩ : Addr).add 10 = ⟨g, 10, none⟩ := by unfold Addr.add; simp
  have f11 : (⟨g, 0, none⟩ : Addr).add 11 = ⟨g, 11, none⟩ := by unfold Addr.add; simp
  rw [f9] at x9
  rw [f10] at x10
  rw [f11] at x11
  have hn4 : 4 ≤ cap := hn
  have HK := Lib.hid (((Keeps.refl None w).alloc _).trans hk (T := None) (fun _ h => h) (fun _ _ h => h))
  clear ho hs htk hg hm hk hb f9 f10 f11 ht hn
  simp only [List.length_cons, List.length_nil, Nat.zero_add, Nat.reduceAdd]
  go_wp2
  go_ret
  exact ⟨rfl, HK.out⟩

set_option maxRecDepth 100000 in
set_option maxHeartbeats 3200000 in
theorem best21_any (A : Option Addr) (L cap : Nat) (zs : List Int) (at_ dist : Int) (W : World) (h : Bs W A L cap zs) :
    Calls Try.prog 3 #[.slice A L cap, .int .i64 at_, .int .i64 dist] W fun e w' => e = .returned (.bool true) ∧ Below W.heap.size W w' := by
  have ALV : Hid (∀ w, Calls Try.prog 15 #[] w fun e w' => e = .returned (.bool true) ∧ Keeps None w w') := alive21_any
  by_cases g1 : 600 < L
  · have d1 : decide (600 < (L : Int)) = true := decide_eq_true (by omega)
    clear h
    go_enter Try.func3, Try.ntmps3
    go_wp2_with fail
    refine (ALV.out _).mono ?_
    rintro e w1 ⟨rfl, hk⟩
    go_wp2
    go_ret
    exact ⟨rfl, hk.below (fun _ _ h => h)⟩
  have d1 : decide (600 < (L : Int)) = false := decide_eq_false (by omega)
  by_cases g2 : at_ < 0
  · have d2 : decide (at_ < 0) = true := decide_eq_true g2
    clear h
    go_enter Try.func3, Try.ntmps3
    go_wp2_with fail
    refine (ALV.out _).mono ?_
    rintro e w1 ⟨rfl, hk⟩
    go_wp2
    go_ret
    exact ⟨rfl, hk.below (fun _ _ h => h)⟩
  obtain ⟨a, rfl⟩ : ∃ a : Nat, at_ = a := ⟨at_.toNat, by omega⟩
  have d2 : decide ((a : Int) < 0) = false := decide_eq_false g2
  by_cases g3 : L ≤ a
  · have d3 : decide ((L : Int) ≤ a) = true := decide_eq_true (by omega)
    have d4 : decide (L ≤ a) = true := decide_eq_true (by omega)
    clear h
    go_enter Try.func3, Try.ntmps3
    go_wp2_with fail
    refine (ALV.out _).mono ?_
    rintro e w1 ⟨rfl, hk⟩
    go_wp2
    go_ret
    exact ⟨rfl, hk.below (fun _ _ h => h)⟩
  have d3 : decide ((L : Int) ≤ a) = false := decide_eq_false (by omega)
  have d4 : decide (L ≤ a) = false := decide_eq_false (by omega)
  have hlt : a < L := by omega
  have hle := h.le
  have hmax := h.max
  have HL := Lib.hid h.len
  have HB := Lib.hid h
  clear h g2
  go_enter Try.func3, Try.ntmps3
  go_wp2_with fail
  refine (ALV.out _).mono ?_
  rintro e w1 ⟨rfl, hk⟩
  have HK1 := Lib.hid hk
  have HB1 := Lib.hid (HB.out.keeps hk (fun _ _ _ _ _ h => h))
  clear hk
  go_wp2_with fail
  refine (qbest_any _ _ _ zs a _ HB1.out hlt).mono ?_
  rintro e w2 ⟨n, d, rfl, hbest, kw, rfl⟩
  have HBE := Lib.hid hbest
  have HK2 := Lib.hid HK1.out
  have HB2 := Lib.hid HB1.out
  have nle := hbest.le
  have nz := hbest.zero
  have hpos := Lib.hid hbest.pos
  clear hbest HK1 HB1 HB
  have nle' : n ≤ 257 ∧ n ≤ L - a := by rw [HL.out] at nle; exact nle
  have fin : ∀ k : Nat, k ≤ 257 → a + k ≤ L → 1 ≤ dist → dist ≤ a → run zs a dist.toNat k → (k < 257 → a + k < L → ¬ run zs a dist.toNat (k + 1)) → (n = 0 ∧ k < 3) ∨ k < n ∨ (n ≠ 0 ∧ k = n ∧ (d : Int) ≤ dist) := by
    intro k h1 h2 h3 h4 h5 h6
    have hl := HL.out
    by_cases hk : k < n
    · exact .inr (.inl hk)
    by_cases h0 : n = 0
    · refine .inl ⟨h0, ?_⟩
      by_cases h7 : k < 3
      · exact h7
      · exact absurd (run_mono h5 (by omega)) (HBE.out.best (by omega) dist.toNat (by omega) (by omega) (by omega) (by omega))
    · have h3n := (hpos.out (by omega)).1
      by_cases h7 : k = n
      · refine .inr (.inr ⟨h0, h7, ?_⟩)
        by_cases h8 : (d : Int) ≤ dist
        · exact h8
        · exact absurd (h7 ▸ h5) (HBE.out.near dist.toNat (by omega) (by omega))
      · exact absurd (run_mono h5 (by omega)) (HBE.out.best (by omega) dist.toNat (by omega) (by omega) (by omega) (by omega))
  have FIN := Lib.hid fin
  have NZ := Lib.hid nz
  clear fin HBE nle nz
  by_cases h0 : n = 0
  · obtain rfl : d = 0 := NZ.out.1 h0
    subst h0
    have RUN : Hid True := trivial
    go_wp2
    go_loopw [10] (fun iv wr => iv = .int .i64 0 ∧ ∃ kk : Nat, wr = w1.drewN kk) (fun _ _ => 0)
    case atStart => exact ⟨rfl, _, rfl⟩
    case round =>
      obtain ⟨rfl, kr, rfl⟩ := hrel
      by_cases e1 : dist < 1
      · have e2 : decide (dist < 1) = true := decide_eq_true e1
        go_wp2
        go_ret
        exact ⟨rfl, (HK2.out.drewN _).below (fun _ _ h => h)⟩
      have e2 : decide (dist < 1) = false := decide_eq_false e1
      by_cases e3 : (a : Int) < dist
      · have e4 : decide ((a : Int) < dist) = true := decide_eq_true e3
        go_wp2
        go_ret
        exact ⟨rfl, (HK2.out.drewN _).below (fun _ _ h => h)⟩
      have e4 : decide ((a : Int) < dist) = false := decide_eq_false e3
      obtain ⟨e, rfl⟩ : ∃ e : Nat, dist = e := ⟨dist.toNat, by omega⟩
      have e5 : 1 ≤ e := by omega
      have e6 : e ≤ a := by omega
      have e7 : decide (a < e) = false := decide_eq_false (by omega)
      rw [Int.toNat_natCast] at FIN
      clear e1 e3
      go_wp2
      go_loopw [11] (fun kv wr => ∃ k kk : Nat, k ≤ 257 ∧ a + k ≤ L ∧ kv = .int .i64 k ∧ run zs a e k ∧ wr = w1.drewN kk) (fun kv _ => 257 - (intOf kv).toNat)
      case atStart => exact ⟨0, _, by decide, by omega, rfl, (fun i hi => by omega), rfl⟩
      case round =>
        obtain ⟨k, kk, k257, kL, rfl, hr, rfl⟩ := hrel
        have HR := Lib.hid hr
        clear hr
        have HB3 := Lib.hid (HB2.out.drewN kk)
        by_cases q1 : k = 257
        · subst q1
          have FF := FIN.out 257 (by decide) kL (by omega) (by omega) HR.out (fun h => absurd h (by decide))
          clear HR HB3
          go_wp2
          obtain ⟨mS, mh⟩ : ∃ S : World → Prop, ∀ w', S w' ↔ (True) := ⟨_, fun _ => Iff.rfl⟩
          have mn : Nonempty (Memb mS) := ⟨⟨((w1.drewN kk)).drew, (mh _).2 trivial⟩⟩
          have mH := Lib.hid mh
          clear mh
          refine wp_region_mix [] (InS mS) (by kernel_rfl) (by kernel_rfl) (InS.mk ((mH.out _).2 trivial)) ?_
          refine wpMix_seg 27 (by kernel_rfl) (by decide) ?_
          simp only [List.take_succ_cons, List.take_zero, List.drop_succ_cons, List.drop_zero]
          repeat (go_big_quiet_step (fail))
          refine wpQuiet_nil ?_
          refine wpMix_nil ?_
          clear  mn mH
          clear HB2 RUN hpos NZ ALV HL
          rcases FF with ⟨f1, f2⟩ | f1 | ⟨f1, f2, f3⟩
          · first | exact absurd f1 (by omega) | skip
            all_goals clear FIN
            all_goals go_wp2
            all_goals go_ret
            all_goals exact ⟨by first | rfl | (simp; done) | (simp; omega), (HK2.out.drewN _).below (fun _ _ h => h)⟩
          · first | exact absurd f1 (by omega) | skip
            all_goals clear FIN
            all_goals go_wp2
            all_goals go_ret
            all_goals exact ⟨by first | rfl | (simp; done) | (simp; omega), (HK2.out.drewN _).below (fun _ _ h => h)⟩
          · first | exact absurd f1 (by omega) | skip
            all_goals have f4 : decide (d ≤ e) = true := decide_eq_true (by omega)
            all_goals have f5 : ((n : Int) != 0) = true := by simp; omega
            all_goals subst f2
            all_goals clear FIN
            all_goals go_wp2
            all_goals go_ret
            all_goals exact ⟨by first | rfl | (simp; done) | (simp; omega), (HK2.out.drewN _).below (fun _ _ h => h)⟩
        have q2 : decide ((k : Int) < 257) = true := decide_eq_true (by omega)
        by_cases q3 : a + k = L
        · have FF := FIN.out k k257 kL (by omega) (by omega) HR.out (fun _ h => absurd h (by omega))
          have q4 : decide ((a : Int) + k < L) = false := decide_eq_false (by omega)
          clear HR HB3
          go_wp2
          obtain ⟨mS, mh⟩ : ∃ S : World → Prop, ∀ w', S w' ↔ (True) := ⟨_, fun _ => Iff.rfl⟩
          have mn : Nonempty (Memb mS) := ⟨⟨((w1.drewN kk)).drew, (mh _).2 trivial⟩⟩
          have mH := Lib.hid mh
          clear mh
          refine wp_region_mix [] (InS mS) (by kernel_rfl) (by kernel_rfl) (InS.mk ((mH.out _).2 trivial)) ?_
          refine wpMix_seg 27 (by kernel_rfl) (by decide) ?_
          simp only [List.take_succ_cons, List.take_zero, List.drop_succ_cons, List.drop_zero]
          repeat (go_big_quiet_step (fail))
          refine wpQuiet_nil ?_
          refine wpMix_nil ?_
          clear  mn mH
          clear HB2 RUN hpos NZ ALV HL
          rcases FF with ⟨f1, f2⟩ | f1 | ⟨f1, f2, f3⟩
          · first | exact absurd f1 (by omega) | skip
            all_goals clear FIN
            all_goals go_wp2
            all_goals go_ret
            all_goals exact ⟨by first | rfl | (simp; done) | (simp; omega), (HK2.out.drewN _).below (fun _ _ h => h)⟩
          · first | exact absurd f1 (by omega) | skip
            all_goals clear FIN
            all_goals go_wp2
            all_goals go_ret
            all_goals exact ⟨by first | rfl | (simp; done) | (simp; omega), (HK2.out.drewN _).below (fun _ _ h => h)⟩
          · first | exact absurd f1 (by omega) | skip
            all_goals have f4 : decide (d ≤ e) = true := decide_eq_true (by omega)
            all_goals have f5 : ((n : Int) != 0) = true := by simp; omega
            all_goals subst f2
            all_goals clear FIN
            all_goals go_wp2
            all_goals go_ret
            all_goals exact ⟨by first | rfl | (simp; done) | (simp; omega), (HK2.out.drewN _).below (fun _ _ h => h)⟩
        have q4 : decide ((a : Int) + k < L) = true := decide_eq_true (by omega)
        obtain ⟨q, hq⟩ : ∃ q, q + e = a + k := ⟨a + k - e, by omega⟩
        have hqi : (a : Int) + k - e = (q : Int) := by omega
        have eq1 : a + k - e = q := by omega
        obtain ⟨bl, of1, x1, rfl, hx1, hx1a, hx1b, hc1⟩ := HB3.out.get (i := a + k) (by omega)
        obtain ⟨bl2, of2, x2, hxx, hx2, hx2a, hx2b, hc2⟩ := HB3.out.get (i := q) (by omega)
        cases hxx
        by_cases hee : x1 = x2
        · have R2 := Lib.hid (run_succ HR.out (by rw [eq1, hx1, hx2]; exact hee))
          subst hee
          clear hx1 hx2 HR
          go_wp2
          obtain ⟨mS, mh⟩ : ∃ S : World → Prop, ∀ w', S w' ↔ (w'.cell? ⟨bl, of1 + (a + k), none⟩ = some (.int .u8 x1) ∧ w'.cell? ⟨bl, of1 + q, none⟩ = some (.int .u8 x1)) := ⟨_, fun _ => Iff.rfl⟩
          have mk0 : ∀ x : Memb mS, x.at_.cell? ⟨bl, of1 + (a + k), none⟩ = some (.int .u8 x1) := fun x => ((mh _).1 x.is).1
          have mk1 : ∀ x : Memb mS, x.at_.cell? ⟨bl, of1 + q, none⟩ = some (.int .u8 x1) := fun x => ((mh _).1 x.is).2
          have mn : Nonempty (Memb mS) := ⟨⟨((w1.drewN kk)).drew, (mh _).2 ⟨hc1, hc2⟩⟩⟩
          have mH := Lib.hid mh
          clear mh
          refine wp_region_mix [] (InS mS) (by kernel_rfl) (by kernel_rfl) (InS.mk ((mH.out _).2 ⟨hc1, hc2⟩)) ?_
          refine wpMix_seg 27 (by kernel_rfl) (by decide) ?_
          simp only [List.take_succ_cons, List.take_zero, List.drop_succ_cons, List.drop_zero]
          repeat (go_big_quiet_step (fail))
          refine wpQuiet_nil ?_
          refine wpMix_nil ?_
          clear mk0 mk1 mn mH
          go_wp2
          go_roundw
          case rel => exact ⟨k + 1, kk + 1, by omega, by omega, by go_num, R2.out, rfl⟩
          case measure => simp [intOf]; omega
        · have heb : (x1 == x2) = false := by simpa using hee
          have FF := FIN.out k k257 kL (by omega) (by omega) HR.out (fun _ _ hr => hee (by have := hr k (by omega); rw [hx1, eq1, hx2] at this; exact this))
          clear hx1 hx2 HR
          go_wp2
          obtain ⟨mS, mh⟩ : ∃ S : World → Prop, ∀ w', S w' ↔ (w'.cell? ⟨bl, of1 + (a + k), none⟩ = some (.int .u8 x1) ∧ w'.cell? ⟨bl, of1 + q, none⟩ = some (.int .u8 x2)) := ⟨_, fun _ => Iff.rfl⟩
          have mk0 : ∀ x : Memb mS, x.at_.cell? ⟨bl, of1 + (a + k), none⟩ = some (.int .u8 x1) := fun x => ((mh _).1 x.is).1
          have mk1 : ∀ x : Memb mS, x.at_.cell? ⟨bl, of1 + q, none⟩ = some (.int .u8 x2) := fun x => ((mh _).1 x.is).2
          have mn : Nonempty (Memb mS) := ⟨⟨((w1.drewN kk)).drew, (mh _).2 ⟨hc1, hc2⟩⟩⟩
          have mH := Lib.hid mh
          clear mh
          refine wp_region_mix [] (InS mS) (by kernel_rfl) (by kernel_rfl) (InS.mk ((mH.out _).2 ⟨hc1, hc2⟩)) ?_
          refine wpMix_seg 27 (by kernel_rfl) (by decide) ?_
          simp only [List.take_succ_cons, List.take_zero, List.drop_succ_cons, List.drop_zero]
          repeat (go_big_quiet_step (fail))
          refine wpQuiet_nil ?_
          refine wpMix_nil ?_
          clear mk0 mk1 mn mH
          clear hc1 hc2 HB3
          clear HB2 RUN hpos NZ ALV HL
          rcases FF with ⟨f1, f2⟩ | f1 | ⟨f1, f2, f3⟩
          · first | exact absurd f1 (by omega) | skip
            all_goals clear FIN
            all_goals go_wp2
            all_goals go_ret
            all_goals exact ⟨by first | rfl | (simp; done) | (simp; omega), (HK2.out.drewN _).below (fun _ _ h => h)⟩
          · first | exact absurd f1 (by omega) | skip
            all_goals clear FIN
            all_goals go_wp2
            all_goals go_ret
            all_goals exact ⟨by first | rfl | (simp; done) | (simp; omega), (HK2.out.drewN _).below (fun _ _ h => h)⟩
          · first | exact absurd f1 (by omega) | skip
            all_goals have f4 : decide (d ≤ e) = true := decide_eq_true (by omega)
            all_goals have f5 : ((n : Int) != 0) = true := by simp; omega
            all_goals subst f2
            all_goals clear FIN
            all_goals go_wp2
            all_goals go_ret
            all_goals exact ⟨by first | rfl | (simp; done) | (simp; omega), (HK2.out.drewN _).below (fun _ _ h => h)⟩
  · obtain ⟨p3, p1, pa, -, hr⟩ := hpos.out (by omega)
    have n0 : ((n : Int) == 0) = false := by simp; omega
    have n1 : ((d : Int) == 0) = false := by simp; omega
    have n2 : decide ((n : Int) < 3) = false := decide_eq_false (by omega)
    have n3 : decide ((257 : Int) < n) = false := decide_eq_false (by omega)
    have n4 : decide ((L : Int) - a < n) = false := decide_eq_false (by omega)
    have n5 : decide ((d : Int) < 1) = false := decide_eq_false (by omega)
    have n6 : decide ((a : Int) < d) = false := decide_eq_false (by omega)
    have n7 : decide (a < d) = false := decide_eq_false (by omega)
    have RUN := Lib.hid hr
    clear hr
    go_wp2
    go_loopw [10] (fun iv wr => ∃ i kk : Nat, i ≤ n ∧ iv = .int .i64 i ∧ wr = w1.drewN kk) (fun iv _ => n - (intOf iv).toNat)
    case atStart => exact ⟨0, _, Nat.zero_le _, rfl, rfl⟩
    case round =>
      obtain ⟨i, kr, hin, rfl, rfl⟩ := hrel
      by_cases hlt2 : i < n
      · obtain ⟨q, hq⟩ : ∃ q, q + d = a + i := ⟨a + i - d, by omega⟩
        have hqi : (a : Int) + i - d = (q : Int) := by omega
        have eq1 : a + i - d = q := by omega
        obtain ⟨bl, of1, x1, rfl, hx1, hx1a, hx1b, hc1⟩ := (HB2.out.drewN kr).get (i := a + i) (by omega)
        obtain ⟨bl2, of2, x2, hxx, hx2, hx2a, hx2b, hc2⟩ := (HB2.out.drewN kr).get (i := q) (by omega)
        cases hxx
        have hee : x1 = x2 := by have := RUN.out i hlt2; rw [hx1, eq1, hx2] at this; exact this
        subst hee
        clear hx1 hx2 FIN
        go_wp2
        obtain ⟨mS, mh⟩ : ∃ S : World → Prop, ∀ w', S w' ↔ (w'.cell? ⟨bl, of1 + (a + i), none⟩ = some (.int .u8 x1) ∧ w'.cell? ⟨bl, of1 + q, none⟩ = some (.int .u8 x1)) := ⟨_, fun _ => Iff.rfl⟩
        have mk0 : ∀ x : Memb mS, x.at_.cell? ⟨bl, of1 + (a + i), none⟩ = some (.int .u8 x1) := fun x => ((mh _).1 x.is).1
        have mk1 : ∀ x : Memb mS, x.at_.cell? ⟨bl, of1 + q, none⟩ = some (.int .u8 x1) := fun x => ((mh _).1 x.is).2
        have mn : Nonempty (Memb mS) := ⟨⟨((w1.drewN kr)).drew, (mh _).2 ⟨hc1, hc2⟩⟩⟩
        have mH := Lib.hid mh
        clear mh
        refine wp_region_mix [] (InS mS) (by kernel_rfl) (by kernel_rfl) (InS.mk ((mH.out _).2 ⟨hc1, hc2⟩)) ?_
        refine wpMix_seg 15 (by kernel_rfl) (by decide) ?_
        simp only [List.take_succ_cons, List.take_zero, List.drop_succ_cons, List.drop_zero]
        repeat (go_big_quiet_step (fail))
        refine wpQuiet_nil ?_
        refine wpMix_nil ?_
        clear mk0 mk1 mn mH
        go_wp2
        go_roundw
        case rel => exact ⟨i + 1, kr + 1, by omega, by go_num, rfl⟩
        case measure => simp [intOf]; omega
      · obtain rfl : n = i := by omega
        clear hlt2 hin
        by_cases e1 : dist < 1
        · have e2 : decide (dist < 1) = true := decide_eq_true e1
          go_wp2
          go_ret
          exact ⟨rfl, (HK2.out.drewN _).below (fun _ _ h => h)⟩
        have e2 : decide (dist < 1) = false := decide_eq_false e1
        by_cases e3 : (a : Int) < dist
        · have e4 : decide ((a : Int) < dist) = true := decide_eq_true e3
          go_wp2
          go_ret
          exact ⟨rfl, (HK2.out.drewN _).below (fun _ _ h => h)⟩
        have e4 : decide ((a : Int) < dist) = false := decide_eq_false e3
        obtain ⟨e, rfl⟩ : ∃ e : Nat, dist = e := ⟨dist.toNat, by omega⟩
        have e5 : 1 ≤ e := by omega
        have e6 : e ≤ a := by omega
        have e7 : decide (a < e) = false := decide_eq_false (by omega)
        rw [Int.toNat_natCast] at FIN
        clear e1 e3
        go_wp2
        go_loopw [11] (fun kv wr => ∃ k kk : Nat, k ≤ 257 ∧ a + k ≤ L ∧ kv = .int .i64 k ∧ run zs a e k ∧ wr = w1.drewN kk) (fun kv _ => 257 - (intOf kv).toNat)
        case atStart => exact ⟨0, _, by decide, by omega, rfl, (fun i hi => by omega), rfl⟩
        case round =>
          obtain ⟨k, kk, k257, kL, rfl, hr, rfl⟩ := hrel
          have HR := Lib.hid hr
          clear hr
          have HB3 := Lib.hid (HB2.out.drewN kk)
          by_cases q1 : k = 257
          · subst q1
            have FF := FIN.out 257 (by decide) kL (by omega) (by omega) HR.out (fun h => absurd h (by decide))
            clear HR HB3
            go_wp2
            obtain ⟨mS, mh⟩ : ∃ S : World → Prop, ∀ w', S w' ↔ (True) := ⟨_, fun _ => Iff.rfl⟩
            have mn : Nonempty (Memb mS) := ⟨⟨((w1.drewN kk)).drew, (mh _).2 trivial⟩⟩
            have mH := Lib.hid mh
            clear mh
            refine wp_region_mix [] (InS mS) (by kernel_rfl) (by kernel_rfl) (InS.mk ((mH.out _).2 trivial)) ?_
            refine wpMix_seg 27 (by kernel_rfl) (by decide) ?_
            simp only [List.take_succ_cons, List.take_zero, List.drop_succ_cons, List.drop_zero]
            repeat (go_big_quiet_step (fail))
            refine wpQuiet_nil ?_
            refine wpMix_nil ?_
            clear  mn mH
            clear HB2 RUN hpos NZ ALV HL
            rcases FF with ⟨f1, f2⟩ | f1 | ⟨f1, f2, f3⟩
            · first | exact absurd f1 (by omega) | skip
              all_goals clear FIN
              all_goals go_wp2
              all_goals go_ret
              all_goals exact ⟨by first | rfl | (simp; done) | (simp; omega), (HK2.out.drewN _).below (fun _ _ h => h)⟩
            · first | exact absurd f1 (by omega) | skip
              all_goals clear FIN
              all_goals go_wp2
              all_goals go_ret
              all_goals exact ⟨by first | rfl | (simp; done) | (simp; omega), (HK2.out.drewN _).below (fun _ _ h => h)⟩
            · first | exact absurd f1 (by omega) | skip
              all_goals have f4 : decide (d ≤ e) = true := decide_eq_true (by omega)
              all_goals have f5 : ((n : Int) != 0) = true := by simp; omega
              all_goals subst f2
              all_goals clear FIN
              all_goals go_wp2
              all_goals go_ret
              all_goals exact ⟨by first | rfl | (simp; done) | (simp; omega), (HK2.out.drewN _).below (fun _ _ h => h)⟩
          have q2 : decide ((k : Int) < 257) = true := decide_eq_true (by omega)
          by_cases q3 : a + k = L
          · have FF := FIN.out k k257 kL (by omega) (by omega) HR.out (fun _ h => absurd h (by omega))
            have q4 : decide ((a : Int) + k < L) = false := decide_eq_false (by omega)
            clear HR HB3
            go_wp2
            obtain ⟨mS, mh⟩ : ∃ S : World → Prop, ∀ w', S w' ↔ (True) := ⟨_, fun _ => Iff.rfl⟩
            have mn : Nonempty (Memb mS) := ⟨⟨((w1.drewN kk)).drew, (mh _).2 trivial⟩⟩
            have mH := Lib.hid mh
            clear mh
            refine wp_region_mix [] (InS mS) (by kernel_rfl) (by kernel_rfl) (InS.mk ((mH.out _).2 trivial)) ?_
            refine wpMix_seg 27 (by kernel_rfl) (by decide) ?_
            simp only [List.take_succ_cons, List.take_zero, List.drop_succ_cons, List.drop_zero]
            repeat (go_big_quiet_step (fail))
            refine wpQuiet_nil ?_
            refine wpMix_nil ?_
            clear  mn mH
            clear HB2 RUN hpos NZ ALV HL
            rcases FF with ⟨f1, f2⟩ | f1 | ⟨f1, f2, f3⟩
            · first | exact absurd f1 (by omega) | skip
              all_goals clear FIN
              all_goals go_wp2
              all_goals go_ret
              all_goals exact ⟨by first | rfl | (simp; done) | (simp; omega), (HK2.out.drewN _).below (fun _ _ h => h)⟩
            · first | exact absurd f1 (by omega) | skip
              all_goals clear FIN
              all_goals go_wp2
              all_goals go_ret
              all_goals exact ⟨by first | rfl | (simp; done) | (simp; omega), (HK2.out.drewN _).below (fun _ _ h => h)⟩
            · first | exact absurd f1 (by omega) | skip
              all_goals have f4 : decide (d ≤ e) = true := decide_eq_true (by omega)
              all_goals have f5 : ((n : Int) != 0) = true := by simp; omega
              all_goals subst f2
              all_goals clear FIN
              all_goals go_wp2
              all_goals go_ret
              all_goals exact ⟨by first | rfl | (simp; done) | (simp; omega), (HK2.out.drewN _).below (fun _ _ h => h)⟩
          have q4 : decide ((a : Int) + k < L) = true := decide_eq_true (by omega)
          obtain ⟨q, hq⟩ : ∃ q, q + e = a + k := ⟨a + k - e, by omega⟩
          have hqi : (a : Int) + k - e = (q : Int) := by omega
          have eq1 : a + k - e = q := by omega
          obtain ⟨bl, of1, x1, rfl, hx1, hx1a, hx1b, hc1⟩ := HB3.out.get (i := a + k) (by omega)
          obtain ⟨bl2, of2, x2, hxx, hx2, hx2a, hx2b, hc2⟩ := HB3.out.get (i := q) (by omega)
          cases hxx
          by_cases hee : x1 = x2
          · have R2 := Lib.hid (run_succ HR.out (by rw [eq1, hx1, hx2]; exact hee))
            subst hee
            clear hx1 hx2 HR
            go_wp2
            obtain ⟨mS, mh⟩ : ∃ S : World → Prop, ∀ w', S w' ↔ (w'.cell? ⟨bl, of1 + (a + k), none⟩ = some (.int .u8 x1) ∧ w'.cell? ⟨bl, of1 + q, none⟩ = some (.int .u8 x1)) := ⟨_, fun _ => Iff.rfl⟩
            have mk0 : ∀ x : Memb mS, x.at_.cell? ⟨bl, of1 + (a + k), none⟩ = some (.int .u8 x1) := fun x => ((mh _).1 x.is).1
            have mk1 : ∀ x : Memb mS, x.at_.cell? ⟨bl, of1 + q, none⟩ = some (.int .u8 x1) := fun x => ((mh _).1 x.is).2
            have mn : Nonempty (Memb mS) := ⟨⟨((w1.drewN kk)).drew, (mh _).2 ⟨hc1, hc2⟩⟩⟩
            have mH := Lib.hid mh
            clear mh
            refine wp_region_mix [] (InS mS) (by kernel_rfl) (by kernel_rfl) (InS.mk ((mH.out _).2 ⟨hc1, hc2⟩)) ?_
            refine wpMix_seg 27 (by kernel_rfl) (by decide) ?_
            simp only [List.take_succ_cons, List.take_zero, List.drop_succ_cons, List.drop_zero]
            repeat (go_big_quiet_step (fail))
            refine wpQuiet_nil ?_
            refine wpMix_nil ?_
            clear mk0 mk1 mn mH
            go_wp2
            go_roundw
            case rel => exact ⟨k + 1, kk + 1, by omega, by omega, by go_num, R2.out, rfl⟩
            case measure => simp [intOf]; omega
          · have heb : (x1 == x2) = false := by simpa using hee
            have FF := FIN.out k k257 kL (by omega) (by omega) HR.out (fun _ _ hr => hee (by have := hr k (by omega); rw [hx1, eq1, hx2] at this; exact this))
            clear hx1 hx2 HR
            go_wp2
            obtain ⟨mS, mh⟩ : ∃ S : World → Prop, ∀ w', S w' ↔ (w'.cell? ⟨bl, of1 + (a + k), none⟩ = some (.int .u8 x1) ∧ w'.cell? ⟨bl, of1 + q, none⟩ = some (.int .u8 x2)) := ⟨_, fun _ => Iff.rfl⟩
            have mk0 : ∀ x : Memb mS, x.at_.cell? ⟨bl, of1 + (a + k), none⟩ = some (.int .u8 x1) := fun x => ((mh _).1 x.is).1
            have mk1 : ∀ x : Memb mS, x.at_.cell? ⟨bl, of1 + q, none⟩ = some (.int .u8 x2) := fun x => ((mh _).1 x.is).2
            have mn : Nonempty (Memb mS) := ⟨⟨((w1.drewN kk)).drew, (mh _).2 ⟨hc1, hc2⟩⟩⟩
            have mH := Lib.hid mh
            clear mh
            refine wp_region_mix [] (InS mS) (by kernel_rfl) (by kernel_rfl) (InS.mk ((mH.out _).2 ⟨hc1, hc2⟩)) ?_
            refine wpMix_seg 27 (by kernel_rfl) (by decide) ?_
            simp only [List.take_succ_cons, List.take_zero, List.drop_succ_cons, List.drop_zero]
            repeat (go_big_quiet_step (fail))
            refine wpQuiet_nil ?_
            refine wpMix_nil ?_
            clear mk0 mk1 mn mH
            clear hc1 hc2 HB3
            clear HB2 RUN hpos NZ ALV HL
            rcases FF with ⟨f1, f2⟩ | f1 | ⟨f1, f2, f3⟩
            · first | exact absurd f1 (by omega) | skip
              all_goals clear FIN
              all_goals go_wp2
              all_goals go_ret
              all_goals exact ⟨by first | rfl | (simp; done) | (simp; omega), (HK2.out.drewN _).below (fun _ _ h => h)⟩
            · first | exact absurd f1 (by omega) | skip
              all_goals clear FIN
              all_goals go_wp2
              all_goals go_ret
              all_goals exact ⟨by first | rfl | (simp; done) | (simp; omega), (HK2.out.drewN _).below (fun _ _ h => h)⟩
            · first | exact absurd f1 (by omega) | skip
              all_goals have f4 : decide (d ≤ e) = true := decide_eq_true (by omega)
              all_goals have f5 : ((n : Int) != 0) = true := by simp; omega
              all_goals subst f2
              all_goals clear FIN
              all_goals go_wp2
              all_goals go_ret
              all_goals exact ⟨by first | rfl | (simp; done) | (simp; omega), (HK2.out.drewN _).below (fun _ _ h => h)⟩
set_option maxRecDepth 100000 in
theorem SqueezeBest_lifted (os : Os) (started : os.Started) (H : Type) (enc : TypeId × Value → H) :
    ReturnsInHanded {} Try.checked os 3 .any (Rows.squeezeBestSpec.pre6 enc Try.prog Try.f3 Rows.squeezeBestRow.domain false) (Rows.squeezeBestSpec.post enc Try.prog Try.f3 false true false false) := by
  refine returnsInHanded_of_change (C := Try.checked) Try.own started (by kernel_rfl) Try.func3
    (ChangeSpec.witness6 (enc := enc) (C := Try.checked) false ⟨#[], #[.slice none 0 0, .int .i64 0, .int .i64 0], []⟩ 8 (by kernel_rfl) (by kernel_rfl) (by kernel_rfl) (by kernel_rfl)) ?_
  intro W base args ds gs before hval0 hW hcnd _
  have hval : ∀ (j : Nat) t v, Try.f3.params[j]? = some t → args[j]? = some v → Value.okWide Try.prog W .any base t v := hval0
  have hW' := hW
  obtain ⟨p, q, hA0, hV, rfl, hfz, hnd⟩ := hW
  have hA : DataW.TrodAll enc Try.prog W 0 (fun _ => true) true Try.f3.params.toList args.toList ds p := hA0
  rw [Try.params3] at hA hval
  obtain ⟨v0, vs0, d0, ds0, p0, q0, hargs, rfl, rfl, h0, r0⟩ := trodAll_cons hA
  obtain ⟨v1, vs1, d1, ds1, p1, q1, rfl, rfl, rfl, h1, r1⟩ := trodAll_cons r0
  obtain ⟨v2, vs2, d2, ds2, p2, q2, rfl, rfl, rfl, h2, r2⟩ := trodAll_cons r1
  obtain ⟨rfl, rfl, rfl⟩ := trodAll_nil r2
  obtain rfl : args = #[v0, v1, v2] := by cases args; simp_all
  obtain ⟨rfl, rfl⟩ := trodVars_none hV
  have k0 := h0
  have lt0 : ∀ x ∈ p0, x.block < W.heap.size := by obtain ⟨m, hm⟩ := k0; exact DataW.trod_lt m _ _ _ hm
  obtain ⟨a0, len0, cap0, rfl⟩ := okWide_slice Try.underlying22 (hval 0 22 v0 rfl rfl)
  obtain ⟨z0, s0⟩ := open_bs h0
  have k1 := h1
  have lt1 : ∀ x ∈ p1, x.block < W.heap.size := by obtain ⟨m, hm⟩ := k1; exact DataW.trod_lt m _ _ _ hm
  obtain ⟨a1, rfl, rfl, rfl, w1⟩ := open_int Try.underlying3 (hval 1 3 v1 rfl rfl) h1
  have k2 := h2
  have lt2 : ∀ x ∈ p2, x.block < W.heap.size := by obtain ⟨m, hm⟩ := k2; exact DataW.trod_lt m _ _ _ hm
  obtain ⟨a2, rfl, rfl, rfl, w2⟩ := open_int Try.underlying3 (hval 2 3 v2 rfl rfl) h2
  clear hA0 hval0
  refine (best21_any a0 len0 cap0 z0 a1 a2 W s0).mono fun e W' ⟨he, bel⟩ => ?_
  subst he
  exact ⟨_, rfl, _, _, _, [], _, [], hW', trodAll_mk1 (shut_bool Try.underlying4 _), (trodAll_cons_mk (Below.trod Try.laidOut (by kernel_rfl) (of_decide_eq_true (by kernel_rfl)) k0 bel lt0) (trodAll_cons_mk (Below.trod Try.laidOut (by kernel_rfl) (of_decide_eq_true (by kernel_rfl)) k1 bel lt1) (trodAll_cons_mk (Below.trod Try.laidOut (by kernel_rfl) (of_decide_eq_true (by kernel_rfl)) k2 bel lt2) trodAll_mk0))), rfl, bel.frame _, fun h => by cases h⟩

set_option maxRecDepth 100000 in
theorem SqueezeBest_closed : joinedFacts Try.checked.prog 3 Try.f3 Rows.squeezeBestSpec Rows.squeezeBestRow = true := by
  unfold joinedFacts
  rw [closed_laid, closed_maps, closed_heard, closed_plain, closed_mayEnter, closed_lifts, closed_make]
  kernel_rfl

theorem SqueezeBest_holds : Rows.SqueezeBestSaid :=
  OpenClaim.holds_of_wide 3 Try.f3 rfl rfl rfl rfl rfl rfl rfl ⟨rfl, rfl, rfl, rfl, rfl⟩ rfl rfl rfl rfl rfl (by kernel_rfl) Try.func3 SqueezeBest_closed
    (of_decide_eq_true (by kernel_rfl)) (by unfold Func.isWrapper; first | (rw [if_pos (by decide +kernel)]; kernel_rfl) | (rw [if_neg (by decide +kernel)]; exact ⟨rfl, rfl⟩))
    (fun os started H enc _ => SqueezeBest_lifted os started H enc)
#print axioms SqueezeBest_holds
end Go.Proofs.Yteogaacdmoafpaa
