/- The walk of squeeze.Best: the longest copy at a place, of the nearest distance. -/
import Derived.Test.YtggjdkkobhefeaaMix2
import Derived.Test.YtggjdkkobhefeaaBytes2
import Derived.BigQuiet
import Derived.WalkMore
import Derived.Deep.LoopGhost
namespace Go.Proofs.Ytggjdkkobhefeaa
open Go.RowKit

/-- The k bytes at a are those d bytes ahead of them. -/
def run (zs : List Int) (a d k : Nat) : Prop := ∀ i, i < k → zs.getD (a + i) 0 = zs.getD (a + i - d) 0
theorem run_mono {zs : List Int} {a d k j : Nat} (h : run zs a d k) (hj : j ≤ k) : run zs a d j := fun i hi => h i (by omega)
theorem run_succ {zs : List Int} {a d k : Nat} (h : run zs a d k) (e : zs.getD (a + k) 0 = zs.getD (a + k - d) 0) : run zs a d (k + 1) := fun i hi => by
  by_cases hk : i < k
  · exact h i hk
  · obtain rfl : i = k := by omega
    exact e

/-- What holds at distance d: n bytes at distance dist are the best of all nearer distances. -/
structure BI (zs : List Int) (a most mx d n dist : Nat) : Prop where
  le : n ≤ most
  d1 : 1 ≤ d
  zero : n = 0 → dist = 0
  pos : 0 < n → 1 ≤ dist ∧ dist < d ∧ dist ≤ mx ∧ run zs a dist n
  best : n < most → ∀ d', 1 ≤ d' → d' < d → ¬ run zs a d' (n + 1)
  near : ∀ d', 1 ≤ d' → d' < dist → ¬ run zs a d' n
theorem BI.start (zs : List Int) (a most mx : Nat) : BI zs a most mx 1 0 0 := ⟨Nat.zero_le _, Nat.le_refl _, fun _ => rfl, fun h => absurd h (by decide), fun _ d' h1 h2 => by omega, fun d' h1 h2 => by omega⟩
theorem BI.skip {zs : List Int} {a most mx d n dist : Nat} (h : BI zs a most mx d n dist) (hn : ¬ run zs a d (n + 1)) : BI zs a most mx (d + 1) n dist :=
  ⟨h.le, by omega, h.zero, fun hp => by obtain ⟨h1, h2, h3, h4⟩ := h.pos hp; exact ⟨h1, by omega, h3, h4⟩, fun hl d' h1 h2 => by
    by_cases e : d' < d
    · exact h.best hl d' h1 e
    · obtain rfl : d' = d := by omega
      exact hn, h.near⟩
theorem BI.take {zs : List Int} {a most mx d n dist m : Nat} (h : BI zs a most mx d n dist) (hn : n < most) (hd : d ≤ mx) (hm : n + 1 ≤ m) (hm2 : m ≤ most) (hr : run zs a d m) (hs : m < most → ¬ run zs a d (m + 1)) : BI zs a most mx (d + 1) m d := by
  have hd1 := h.d1
  refine ⟨hm2, by omega, fun e => by omega, fun _ => ⟨h.d1, by omega, hd, hr⟩, fun hl d' h1 h2 hx => ?_, fun d' h1 h2 hx => h.best hn d' h1 h2 (run_mono hx hm)⟩
  by_cases e : d' < d
  · exact h.best hn d' h1 e (run_mono hx (by omega))
  · obtain rfl : d' = d := by omega
    exact hs hl hx

/-- What is best at a place: n bytes at distance dist. -/
structure BestOf (zs : List Int) (a n dist : Nat) : Prop where
  le : n ≤ 257 ∧ n ≤ zs.length - a
  zero : n = 0 ↔ dist = 0
  pos : 0 < n → 3 ≤ n ∧ 1 ≤ dist ∧ dist ≤ a ∧ dist ≤ 4096 ∧ run zs a dist n
  best : n < min 257 (zs.length - a) → ∀ d', 1 ≤ d' → d' ≤ a → d' ≤ 4096 → (2 < min 257 (zs.length - a)) → ¬ run zs a d' (max n 2 + 1)
  near : ∀ d', 1 ≤ d' → d' < dist → ¬ run zs a d' n
theorem BI.done {zs : List Int} {a most mx d n dist : Nat} (h : BI zs a most mx d n dist) (h1 : most = min 257 (zs.length - a)) (h2 : mx = min a 4096) (he : mx < d ∨ most ≤ n) (h3 : 3 ≤ n) : BestOf zs a n dist := by
  have hle := h.le
  obtain ⟨p1, p2, p3, p4⟩ := h.pos (by omega)
  refine ⟨by omega, ⟨h.zero, fun e => by omega⟩, fun _ => ⟨h3, p1, by omega, by omega, p4⟩, fun hl d' x1 x2 x3 _ hx => ?_, h.near⟩
  rw [show max n 2 = n by omega] at hx
  exact h.best (by omega) d' x1 (by omega) hx
theorem BI.none {zs : List Int} {a most mx d n dist : Nat} (h : BI zs a most mx d n dist) (h1 : most = min 257 (zs.length - a)) (h2 : mx = min a 4096) (he : mx < d ∨ most ≤ n) (h3 : n < 3) : BestOf zs a 0 0 := by
  refine ⟨by omega, ⟨fun _ => rfl, fun _ => rfl⟩, fun e => absurd e (by decide), fun hl d' x1 x2 x3 x4 hx => ?_, fun d' x1 x2 => by omega⟩
  exact h.best (by omega) d' x1 (by omega) (run_mono hx (by omega))
theorem BestOf.uniq {zs : List Int} {a n dist m dm : Nat} (h : BestOf zs a n dist) (k : BestOf zs a m dm) : n = m ∧ dist = dm := by
  have key : ∀ {n dist m dm : Nat}, BestOf zs a n dist → BestOf zs a m dm → ¬ n < m := by
    intro n dist m dm h k hlt
    obtain ⟨q1, q2, q3, q4, q5⟩ := k.pos (by omega)
    have := k.le
    exact h.best (by omega) dm q2 q3 q4 (by omega) (run_mono q5 (by omega))
  have e : n = m := by
    have h1 := key h k
    have h2 := key k h
    omega
  subst e
  refine ⟨rfl, ?_⟩
  by_cases h0 : n = 0
  · rw [h.zero.1 h0, k.zero.1 h0]
  · obtain ⟨-, p2, -, -, p5⟩ := h.pos (by omega)
    obtain ⟨-, q2, -, -, q5⟩ := k.pos (by omega)
    have h1 : ¬ dist < dm := fun hl => k.near dist p2 hl p5
    have h2 : ¬ dm < dist := fun hl => h.near dm q2 hl q5
    omega

set_option maxRecDepth 100000 in
set_option maxHeartbeats 1600000 in
theorem qbest_any (A : Option Addr) (L cap : Nat) (zs : List Int) (a : Nat) (w : World) (h : Bs w A L cap zs) (ha : a < L) :
    Calls Try.prog 73 #[.slice A L cap, .int .i64 a] w fun e w' => ∃ n dist : Nat, e = .returned (.tuple #[.int .i64 n, .int .i64 dist]) ∧ BestOf zs a n dist ∧ ∃ k, w' = w.drewN k := by
  have hle := h.le
  have hmax := h.max
  have HL := Lib.hid h.len
  have HB := Lib.hid h
  have g1 : decide ((a : Int) < 0) = false := decide_eq_false (by omega)
  have g2 : decide ((L : Int) ≤ a) = false := decide_eq_false (by omega)
  have g3 : decide (L ≤ a) = false := decide_eq_false (by omega)
  obtain ⟨most, hm1⟩ : ∃ most : Nat, min 257 (L - a) = most := ⟨_, rfl⟩
  obtain ⟨mx, hm2⟩ : ∃ mx : Nat, min a 4096 = mx := ⟨_, rfl⟩
  have e3 : most ≤ L - a := by omega
  have e4 : mx ≤ a := by omega
  have S := Lib.hid (BI.start zs a most mx)
  have e5 := h.len
  have hm3 : most = min 257 (zs.length - a) := by omega
  have M1 := Lib.hid hm3.symm
  have M2 := Lib.hid hm2
  clear hm3 e5
  by_cases c1 : 257 ≤ (L : Int) - a
  · obtain rfl : most = 257 := by omega
    by_cases c2 : a ≤ 4096
    · obtain rfl : mx = a := by omega
      clear h hm1 hm2
      go_enter Try.func73, Try.ntmps73
      go_wp2
      go_step3
      go_wp2
      go_step3
      go_wp2
      go_loopg [4, 5, 7] mx (fun g nv dv iv wr => ∃ n dist d k : Nat, d + g = mx + 1 ∧ nv = .int .i64 n ∧ dv = .int .i64 dist ∧ iv = .int .i64 d ∧ BI zs mx 257 mx d n dist ∧ wr = w.drewN k)
      case atStart => exact ⟨0, 0, 1, 0, by omega, rfl, rfl, rfl, S.out, rfl⟩
      case round =>
        obtain ⟨n, dist, d, kw, hg, rfl, rfl, rfl, hI, rfl⟩ := hrel
        have d1 := hI.d1
        have nle := hI.le
        have HI := Lib.hid hI
        clear hI S
        by_cases hd : d ≤ mx
        · by_cases hn : n < 257
          · obtain ⟨G, rfl⟩ : ∃ G, gk = G + 1 := ⟨gk - 1, by omega⟩
            go_wp2
            go_loopg [35] (n + 1) (fun g iv wr => ∃ i k : Nat, i + g = n + 1 ∧ iv = .int .i64 i ∧ run zs mx d i ∧ wr = w.drewN k)
            case atStart => exact ⟨0, kw, by omega, rfl, fun j hj => by omega, rfl⟩
            case round =>
              obtain ⟨i, k2, hig, rfl, hr, rfl⟩ := hrel
              have HR := Lib.hid hr
              clear hr
              by_cases hin : i < n + 1
              · obtain ⟨g2, rfl⟩ : ∃ g2, gk = g2 + 1 := ⟨gk - 1, by omega⟩
                obtain ⟨q, hq⟩ : ∃ q, q + d = mx + i := ⟨mx + i - d, by omega⟩
                have hqi : ((mx : Nat) : Int) + i - d = (q : Int) := by omega
                have eq1 : mx + i - d = q := by omega
                obtain ⟨bl, of1, x1, rfl, hx1, hx1a, hx1b, hc1⟩ := (HB.out.drewN k2).get (i := mx + i) (by omega)
                obtain ⟨bl2, of2, x2, hxx, hx2, hx2a, hx2b, hc2⟩ := (HB.out.drewN k2).get (i := q) (by omega)
                cases hxx
                by_cases hee : x1 = x2
                · have R2 := Lib.hid (run_succ HR.out (by rw [eq1, hx1, hx2]; exact hee))
                  subst hee
                  clear hx1 hx2 HR
                  go_wp2
                  obtain ⟨mS, mh⟩ : ∃ S : World → Prop, ∀ w', S w' ↔ (w'.cell? ⟨bl, of1 + (mx + i), none⟩ = some (.int .u8 x1) ∧ w'.cell? ⟨bl, of1 + q, none⟩ = some (.int .u8 x1)) := ⟨_, fun _ => Iff.rfl⟩
                  have mk0 : ∀ x : Memb mS, x.at_.cell? ⟨bl, of1 + (mx + i), none⟩ = some (.int .u8 x1) := fun x => ((mh _).1 x.is).1
                  have mk1 : ∀ x : Memb mS, x.at_.cell? ⟨bl, of1 + q, none⟩ = some (.int .u8 x1) := fun x => ((mh _).1 x.is).2
                  have mn : Nonempty (Memb mS) := ⟨⟨((w.drewN k2)).drew, (mh _).2 ⟨hc1, hc2⟩⟩⟩
                  have mH := Lib.hid mh
                  clear mh
                  refine wp_region_mix [] (InS mS) (by kernel_rfl) (by kernel_rfl) (InS.mk ((mH.out _).2 ⟨hc1, hc2⟩)) ?_
                  refine wpMix_seg 15 (by kernel_rfl) (by decide) ?_
                  simp only [List.take_succ_cons, List.take_zero, List.drop_succ_cons, List.drop_zero]
                  repeat (go_big_quiet_step (fail))
                  refine wpQuiet_nil ?_
                  refine wpMix_nil ?_
                  clear mk0 mk1 mn mH
                  go_wp2
                  go_roundg g2
                  case measure => omega
                  case rel => exact ⟨i + 1, k2 + 1, by omega, by go_num, R2.out, rfl⟩
                · have NR := Lib.hid (HI.out.skip (fun hr => hee (by have := hr i hin; rw [hx1, eq1, hx2] at this; exact this)))
                  have heb : (x1 == x2) = false := by simpa using hee
                  clear hx1 hx2 HR HI
                  go_wp2
                  obtain ⟨mS, mh⟩ : ∃ S : World → Prop, ∀ w', S w' ↔ (w'.cell? ⟨bl, of1 + (mx + i), none⟩ = some (.int .u8 x1) ∧ w'.cell? ⟨bl, of1 + q, none⟩ = some (.int .u8 x2)) := ⟨_, fun _ => Iff.rfl⟩
                  have mk0 : ∀ x : Memb mS, x.at_.cell? ⟨bl, of1 + (mx + i), none⟩ = some (.int .u8 x1) := fun x => ((mh _).1 x.is).1
                  have mk1 : ∀ x : Memb mS, x.at_.cell? ⟨bl, of1 + q, none⟩ = some (.int .u8 x2) := fun x => ((mh _).1 x.is).2
                  have mn : Nonempty (Memb mS) := ⟨⟨((w.drewN k2)).drew, (mh _).2 ⟨hc1, hc2⟩⟩⟩
                  have mH := Lib.hid mh
                  clear mh
                  refine wp_region_mix [] (InS mS) (by kernel_rfl) (by kernel_rfl) (InS.mk ((mH.out _).2 ⟨hc1, hc2⟩)) ?_
                  refine wpMix_seg 15 (by kernel_rfl) (by decide) ?_
                  simp only [List.take_succ_cons, List.take_zero, List.drop_succ_cons, List.drop_zero]
                  repeat (go_big_quiet_step (fail))
                  refine wpQuiet_nil ?_
                  refine wpMix_nil ?_
                  clear mk0 mk1 mn mH
                  go_wp2
                  go_roundg G
                  case measure => omega
                  case rel => exact ⟨n, dist, d + 1, k2 + 1, by omega, rfl, rfl, by go_num, NR.out, rfl⟩
              · obtain rfl : i = n + 1 := by omega
                clear hin
                go_wp2
                go_loopg [4] (257 - (n + 1)) (fun g nv wr => ∃ m k : Nat, m + g = 257 ∧ nv = .int .i64 m ∧ n + 1 ≤ m ∧ run zs mx d m ∧ wr = w.drewN k)
                case atStart => exact ⟨n + 1, k2, by omega, by go_num, Nat.le_refl _, HR.out, rfl⟩
                case round =>
                  obtain ⟨m, k3, hmg, rfl, hnm, hr, rfl⟩ := hrel
                  have HR3 := Lib.hid hr
                  clear hr HR
                  by_cases hmm : m < 257
                  · obtain ⟨g3, rfl⟩ : ∃ g3, gk = g3 + 1 := ⟨gk - 1, by omega⟩
                    have hmt : decide ((m : Int) < 257) = true := decide_eq_true (by omega)
                    obtain ⟨q, hq⟩ : ∃ q, q + d = mx + m := ⟨mx + m - d, by omega⟩
                    have hqi : ((mx : Nat) : Int) + m - d = (q : Int) := by omega
                    have eq1 : mx + m - d = q := by omega
                    obtain ⟨bl, of1, x1, rfl, hx1, hx1a, hx1b, hc1⟩ := (HB.out.drewN k3).get (i := mx + m) (by omega)
                    obtain ⟨bl2, of2, x2, hxx, hx2, hx2a, hx2b, hc2⟩ := (HB.out.drewN k3).get (i := q) (by omega)
                    cases hxx
                    by_cases hee : x1 = x2
                    · have R2 := Lib.hid (run_succ HR3.out (by rw [eq1, hx1, hx2]; exact hee))
                      subst hee
                      clear hx1 hx2 HR3
                      go_wp2
                      obtain ⟨mS, mh⟩ : ∃ S : World → Prop, ∀ w', S w' ↔ (w'.cell? ⟨bl, of1 + (mx + m), none⟩ = some (.int .u8 x1) ∧ w'.cell? ⟨bl, of1 + q, none⟩ = some (.int .u8 x1)) := ⟨_, fun _ => Iff.rfl⟩
                      have mk0 : ∀ x : Memb mS, x.at_.cell? ⟨bl, of1 + (mx + m), none⟩ = some (.int .u8 x1) := fun x => ((mh _).1 x.is).1
                      have mk1 : ∀ x : Memb mS, x.at_.cell? ⟨bl, of1 + q, none⟩ = some (.int .u8 x1) := fun x => ((mh _).1 x.is).2
                      have mn : Nonempty (Memb mS) := ⟨⟨((w.drewN k3)).drew, (mh _).2 ⟨hc1, hc2⟩⟩⟩
                      have mH := Lib.hid mh
                      clear mh
                      refine wp_region_mix [] (InS mS) (by kernel_rfl) (by kernel_rfl) (InS.mk ((mH.out _).2 ⟨hc1, hc2⟩)) ?_
                      refine wpMix_seg 20 (by kernel_rfl) (by decide) ?_
                      simp only [List.take_succ_cons, List.take_zero, List.drop_succ_cons, List.drop_zero]
                      repeat (go_big_quiet_step (fail))
                      refine wpQuiet_nil ?_
                      refine wpMix_nil ?_
                      clear mk0 mk1 mn mH
                      go_wp2
                      go_roundg g3
                      case measure => omega
                      case rel => exact ⟨m + 1, k3 + 1, by omega, by go_num, by omega, R2.out, rfl⟩
                    · have NR := Lib.hid (HI.out.take hn hd hnm (by omega) HR3.out (fun _ hr => hee (by have := hr m (by omega); rw [hx1, eq1, hx2] at this; exact this)))
                      have heb : (x1 == x2) = false := by simpa using hee
                      clear hx1 hx2 HR3 HI
                      go_wp2
                      obtain ⟨mS, mh⟩ : ∃ S : World → Prop, ∀ w', S w' ↔ (w'.cell? ⟨bl, of1 + (mx + m), none⟩ = some (.int .u8 x1) ∧ w'.cell? ⟨bl, of1 + q, none⟩ = some (.int .u8 x2)) := ⟨_, fun _ => Iff.rfl⟩
                      have mk0 : ∀ x : Memb mS, x.at_.cell? ⟨bl, of1 + (mx + m), none⟩ = some (.int .u8 x1) := fun x => ((mh _).1 x.is).1
                      have mk1 : ∀ x : Memb mS, x.at_.cell? ⟨bl, of1 + q, none⟩ = some (.int .u8 x2) := fun x => ((mh _).1 x.is).2
                      have mn : Nonempty (Memb mS) := ⟨⟨((w.drewN k3)).drew, (mh _).2 ⟨hc1, hc2⟩⟩⟩
                      have mH := Lib.hid mh
                      clear mh
                      refine wp_region_mix [] (InS mS) (by kernel_rfl) (by kernel_rfl) (InS.mk ((mH.out _).2 ⟨hc1, hc2⟩)) ?_
                      refine wpMix_seg 20 (by kernel_rfl) (by decide) ?_
                      simp only [List.take_succ_cons, List.take_zero, List.drop_succ_cons, List.drop_zero]
                      repeat (go_big_quiet_step (fail))
                      refine wpQuiet_nil ?_
                      refine wpMix_nil ?_
                      clear mk0 mk1 mn mH
                      go_wp2
                      go_roundg G
                      case measure => omega
                      case rel => exact ⟨m, d, d + 1, k3 + 1, by omega, rfl, rfl, by go_num, NR.out, rfl⟩
                  · have NR := Lib.hid (HI.out.take hn hd hnm (by omega) HR3.out (fun h => by omega))
                    obtain rfl : 257 = m := by omega
                    clear HR3 HI hmm
                    go_wp2
                    obtain ⟨mS, mh⟩ : ∃ S : World → Prop, ∀ w', S w' ↔ (True) := ⟨_, fun _ => Iff.rfl⟩
                    have mn : Nonempty (Memb mS) := ⟨⟨((w.drewN k3)).drew, (mh _).2 trivial⟩⟩
                    have mH := Lib.hid mh
                    clear mh
                    refine wp_region_mix [] (InS mS) (by kernel_rfl) (by kernel_rfl) (InS.mk ((mH.out _).2 trivial)) ?_
                    refine wpMix_seg 20 (by kernel_rfl) (by decide) ?_
                    simp only [List.take_succ_cons, List.take_zero, List.drop_succ_cons, List.drop_zero]
                    repeat (go_big_quiet_step (fail))
                    refine wpQuiet_nil ?_
                    refine wpMix_nil ?_
                    clear  mn mH
                    go_wp2
                    go_roundg G
                    case measure => omega
                    case rel => exact ⟨257, d, d + 1, k3 + 1, by omega, rfl, rfl, by go_num, NR.out, rfl⟩
          · by_cases h3 : n < 3
            · have D := Lib.hid (HI.out.none M1.out.symm M2.out.symm (Or.inr (by omega)) h3)
              clear HI
              go_wp2
              all_goals try rw [Exit.noGoto_ret]
              all_goals go_ret2
              all_goals exact ⟨0, 0, rfl, D.out, _, rfl⟩
            · have D := Lib.hid (HI.out.done M1.out.symm M2.out.symm (Or.inr (by omega)) (by omega))
              clear HI
              go_wp2
              all_goals try rw [Exit.noGoto_ret]
              all_goals go_ret2
              all_goals exact ⟨n, dist, rfl, D.out, _, rfl⟩
        · by_cases h3 : n < 3
          · have D := Lib.hid (HI.out.none M1.out.symm M2.out.symm (Or.inl (by omega)) h3)
            clear HI
            go_wp2
            all_goals try rw [Exit.noGoto_ret]
            go_ret2
            exact ⟨0, 0, rfl, D.out, _, rfl⟩
          · have D := Lib.hid (HI.out.done M1.out.symm M2.out.symm (Or.inl (by omega)) (by omega))
            clear HI
            go_wp2
            all_goals try rw [Exit.noGoto_ret]
            go_ret2
            exact ⟨n, dist, rfl, D.out, _, rfl⟩
    · obtain rfl : mx = 4096 := by omega
      clear h hm1 hm2
      go_enter Try.func73, Try.ntmps73
      go_wp2
      go_step3
      go_wp2
      go_step3
      go_wp2
      go_loopg [4, 5, 7] 4096 (fun g nv dv iv wr => ∃ n dist d k : Nat, d + g = 4096 + 1 ∧ nv = .int .i64 n ∧ dv = .int .i64 dist ∧ iv = .int .i64 d ∧ BI zs a 257 4096 d n dist ∧ wr = w.drewN k)
      case atStart => exact ⟨0, 0, 1, 0, by omega, rfl, rfl, rfl, S.out, rfl⟩
      case round =>
        obtain ⟨n, dist, d, kw, hg, rfl, rfl, rfl, hI, rfl⟩ := hrel
        have d1 := hI.d1
        have nle := hI.le
        have HI := Lib.hid hI
        clear hI S
        by_cases hd : d ≤ 4096
        · by_cases hn : n < 257
          · obtain ⟨G, rfl⟩ : ∃ G, gk = G + 1 := ⟨gk - 1, by omega⟩
            go_wp2
            go_loopg [35] (n + 1) (fun g iv wr => ∃ i k : Nat, i + g = n + 1 ∧ iv = .int .i64 i ∧ run zs a d i ∧ wr = w.drewN k)
            case atStart => exact ⟨0, kw, by omega, rfl, fun j hj => by omega, rfl⟩
            case round =>
              obtain ⟨i, k2, hig, rfl, hr, rfl⟩ := hrel
              have HR := Lib.hid hr
              clear hr
              by_cases hin : i < n + 1
              · obtain ⟨g2, rfl⟩ : ∃ g2, gk = g2 + 1 := ⟨gk - 1, by omega⟩
                obtain ⟨q, hq⟩ : ∃ q, q + d = a + i := ⟨a + i - d, by omega⟩
                have hqi : ((a : Nat) : Int) + i - d = (q : Int) := by omega
                have eq1 : a + i - d = q := by omega
                obtain ⟨bl, of1, x1, rfl, hx1, hx1a, hx1b, hc1⟩ := (HB.out.drewN k2).get (i := a + i) (by omega)
                obtain ⟨bl2, of2, x2, hxx, hx2, hx2a, hx2b, hc2⟩ := (HB.out.drewN k2).get (i := q) (by omega)
                cases hxx
                by_cases hee : x1 = x2
                · have R2 := Lib.hid (run_succ HR.out (by rw [eq1, hx1, hx2]; exact hee))
                  subst hee
                  clear hx1 hx2 HR
                  go_wp2
                  obtain ⟨mS, mh⟩ : ∃ S : World → Prop, ∀ w', S w' ↔ (w'.cell? ⟨bl, of1 + (a + i), none⟩ = some (.int .u8 x1) ∧ w'.cell? ⟨bl, of1 + q, none⟩ = some (.int .u8 x1)) := ⟨_, fun _ => Iff.rfl⟩
                  have mk0 : ∀ x : Memb mS, x.at_.cell? ⟨bl, of1 + (a + i), none⟩ = some (.int .u8 x1) := fun x => ((mh _).1 x.is).1
                  have mk1 : ∀ x : Memb mS, x.at_.cell? ⟨bl, of1 + q, none⟩ = some (.int .u8 x1) := fun x => ((mh _).1 x.is).2
                  have mn : Nonempty (Memb mS) := ⟨⟨((w.drewN k2)).drew, (mh _).2 ⟨hc1, hc2⟩⟩⟩
                  have mH := Lib.hid mh
                  clear mh
                  refine wp_region_mix [] (InS mS) (by kernel_rfl) (by kernel_rfl) (InS.mk ((mH.out _).2 ⟨hc1, hc2⟩)) ?_
                  refine wpMix_seg 15 (by kernel_rfl) (by decide) ?_
                  simp only [List.take_succ_cons, List.take_zero, List.drop_succ_cons, List.drop_zero]
                  repeat (go_big_quiet_step (fail))
                  refine wpQuiet_nil ?_
                  refine wpMix_nil ?_
                  clear mk0 mk1 mn mH
                  go_wp2
                  go_roundg g2
                  case measure => omega
                  case rel => exact ⟨i + 1, k2 + 1, by omega, by go_num, R2.out, rfl⟩
                · have NR := Lib.hid (HI.out.skip (fun hr => hee (by have := hr i hin; rw [hx1, eq1, hx2] at this; exact this)))
                  have heb : (x1 == x2) = false := by simpa using hee
                  clear hx1 hx2 HR HI
                  go_wp2
                  obtain ⟨mS, mh⟩ : ∃ S : World → Prop, ∀ w', S w' ↔ (w'.cell? ⟨bl, of1 + (a + i), none⟩ = some (.int .u8 x1) ∧ w'.cell? ⟨bl, of1 + q, none⟩ = some (.int .u8 x2)) := ⟨_, fun _ => Iff.rfl⟩
                  have mk0 : ∀ x : Memb mS, x.at_.cell? ⟨bl, of1 + (a + i), none⟩ = some (.int .u8 x1) := fun x => ((mh _).1 x.is).1
                  have mk1 : ∀ x : Memb mS, x.at_.cell? ⟨bl, of1 + q, none⟩ = some (.int .u8 x2) := fun x => ((mh _).1 x.is).2
                  have mn : Nonempty (Memb mS) := ⟨⟨((w.drewN k2)).drew, (mh _).2 ⟨hc1, hc2⟩⟩⟩
                  have mH := Lib.hid mh
                  clear mh
                  refine wp_region_mix [] (InS mS) (by kernel_rfl) (by kernel_rfl) (InS.mk ((mH.out _).2 ⟨hc1, hc2⟩)) ?_
                  refine wpMix_seg 15 (by kernel_rfl) (by decide) ?_
                  simp only [List.take_succ_cons, List.take_zero, List.drop_succ_cons, List.drop_zero]
                  repeat (go_big_quiet_step (fail))
                  refine wpQuiet_nil ?_
                  refine wpMix_nil ?_
                  clear mk0 mk1 mn mH
                  go_wp2
                  go_roundg G
                  case measure => omega
                  case rel => exact ⟨n, dist, d + 1, k2 + 1, by omega, rfl, rfl, by go_num, NR.out, rfl⟩
              · obtain rfl : i = n + 1 := by omega
                clear hin
                go_wp2
                go_loopg [4] (257 - (n + 1)) (fun g nv wr => ∃ m k : Nat, m + g = 257 ∧ nv = .int .i64 m ∧ n + 1 ≤ m ∧ run zs a d m ∧ wr = w.drewN k)
                case atStart => exact ⟨n + 1, k2, by omega, by go_num, Nat.le_refl _, HR.out, rfl⟩
                case round =>
                  obtain ⟨m, k3, hmg, rfl, hnm, hr, rfl⟩ := hrel
                  have HR3 := Lib.hid hr
                  clear hr HR
                  by_cases hmm : m < 257
                  · obtain ⟨g3, rfl⟩ : ∃ g3, gk = g3 + 1 := ⟨gk - 1, by omega⟩
                    have hmt : decide ((m : Int) < 257) = true := decide_eq_true (by omega)
                    obtain ⟨q, hq⟩ : ∃ q, q + d = a + m := ⟨a + m - d, by omega⟩
                    have hqi : ((a : Nat) : Int) + m - d = (q : Int) := by omega
                    have eq1 : a + m - d = q := by omega
                    obtain ⟨bl, of1, x1, rfl, hx1, hx1a, hx1b, hc1⟩ := (HB.out.drewN k3).get (i := a + m) (by omega)
                    obtain ⟨bl2, of2, x2, hxx, hx2, hx2a, hx2b, hc2⟩ := (HB.out.drewN k3).get (i := q) (by omega)
                    cases hxx
                    by_cases hee : x1 = x2
                    · have R2 := Lib.hid (run_succ HR3.out (by rw [eq1, hx1, hx2]; exact hee))
                      subst hee
                      clear hx1 hx2 HR3
                      go_wp2
                      obtain ⟨mS, mh⟩ : ∃ S : World → Prop, ∀ w', S w' ↔ (w'.cell? ⟨bl, of1 + (a + m), none⟩ = some (.int .u8 x1) ∧ w'.cell? ⟨bl, of1 + q, none⟩ = some (.int .u8 x1)) := ⟨_, fun _ => Iff.rfl⟩
                      have mk0 : ∀ x : Memb mS, x.at_.cell? ⟨bl, of1 + (a + m), none⟩ = some (.int .u8 x1) := fun x => ((mh _).1 x.is).1
                      have mk1 : ∀ x : Memb mS, x.at_.cell? ⟨bl, of1 + q, none⟩ = some (.int .u8 x1) := fun x => ((mh _).1 x.is).2
                      have mn : Nonempty (Memb mS) := ⟨⟨((w.drewN k3)).drew, (mh _).2 ⟨hc1, hc2⟩⟩⟩
                      have mH := Lib.hid mh
                      clear mh
                      refine wp_region_mix [] (InS mS) (by kernel_rfl) (by kernel_rfl) (InS.mk ((mH.out _).2 ⟨hc1, hc2⟩)) ?_
                      refine wpMix_seg 20 (by kernel_rfl) (by decide) ?_
                      simp only [List.take_succ_cons, List.take_zero, List.drop_succ_cons, List.drop_zero]
                      repeat (go_big_quiet_step (fail))
                      refine wpQuiet_nil ?_
                      refine wpMix_nil ?_
                      clear mk0 mk1 mn mH
                      go_wp2
                      go_roundg g3
                      case measure => omega
                      case rel => exact ⟨m + 1, k3 + 1, by omega, by go_num, by omega, R2.out, rfl⟩
                    · have NR := Lib.hid (HI.out.take hn hd hnm (by omega) HR3.out (fun _ hr => hee (by have := hr m (by omega); rw [hx1, eq1, hx2] at this; exact this)))
                      have heb : (x1 == x2) = false := by simpa using hee
                      clear hx1 hx2 HR3 HI
                      go_wp2
                      obtain ⟨mS, mh⟩ : ∃ S : World → Prop, ∀ w', S w' ↔ (w'.cell? ⟨bl, of1 + (a + m), none⟩ = some (.int .u8 x1) ∧ w'.cell? ⟨bl, of1 + q, none⟩ = some (.int .u8 x2)) := ⟨_, fun _ => Iff.rfl⟩
                      have mk0 : ∀ x : Memb mS, x.at_.cell? ⟨bl, of1 + (a + m), none⟩ = some (.int .u8 x1) := fun x => ((mh _).1 x.is).1
                      have mk1 : ∀ x : Memb mS, x.at_.cell? ⟨bl, of1 + q, none⟩ = some (.int .u8 x2) := fun x => ((mh _).1 x.is).2
                      have mn : Nonempty (Memb mS) := ⟨⟨((w.drewN k3)).drew, (mh _).2 ⟨hc1, hc2⟩⟩⟩
                      have mH := Lib.hid mh
                      clear mh
                      refine wp_region_mix [] (InS mS) (by kernel_rfl) (by kernel_rfl) (InS.mk ((mH.out _).2 ⟨hc1, hc2⟩)) ?_
                      refine wpMix_seg 20 (by kernel_rfl) (by decide) ?_
                      simp only [List.take_succ_cons, List.take_zero, List.drop_succ_cons, List.drop_zero]
                      repeat (go_big_quiet_step (fail))
                      refine wpQuiet_nil ?_
                      refine wpMix_nil ?_
                      clear mk0 mk1 mn mH
                      go_wp2
                      go_roundg G
                      case measure => omega
                      case rel => exact ⟨m, d, d + 1, k3 + 1, by omega, rfl, rfl, by go_num, NR.out, rfl⟩
                  · have NR := Lib.hid (HI.out.take hn hd hnm (by omega) HR3.out (fun h => by omega))
                    obtain rfl : 257 = m := by omega
                    clear HR3 HI hmm
                    go_wp2
                    obtain ⟨mS, mh⟩ : ∃ S : World → Prop, ∀ w', S w' ↔ (True) := ⟨_, fun _ => Iff.rfl⟩
                    have mn : Nonempty (Memb mS) := ⟨⟨((w.drewN k3)).drew, (mh _).2 trivial⟩⟩
                    have mH := Lib.hid mh
                    clear mh
                    refine wp_region_mix [] (InS mS) (by kernel_rfl) (by kernel_rfl) (InS.mk ((mH.out _).2 trivial)) ?_
                    refine wpMix_seg 20 (by kernel_rfl) (by decide) ?_
                    simp only [List.take_succ_cons, List.take_zero, List.drop_succ_cons, List.drop_zero]
                    repeat (go_big_quiet_step (fail))
                    refine wpQuiet_nil ?_
                    refine wpMix_nil ?_
                    clear  mn mH
                    go_wp2
                    go_roundg G
                    case measure => omega
                    case rel => exact ⟨257, d, d + 1, k3 + 1, by omega, rfl, rfl, by go_num, NR.out, rfl⟩
          · by_cases h3 : n < 3
            · have D := Lib.hid (HI.out.none M1.out.symm M2.out.symm (Or.inr (by omega)) h3)
              clear HI
              go_wp2
              all_goals try rw [Exit.noGoto_ret]
              all_goals go_ret2
              all_goals exact ⟨0, 0, rfl, D.out, _, rfl⟩
            · have D := Lib.hid (HI.out.done M1.out.symm M2.out.symm (Or.inr (by omega)) (by omega))
              clear HI
              go_wp2
              all_goals try rw [Exit.noGoto_ret]
              all_goals go_ret2
              all_goals exact ⟨n, dist, rfl, D.out, _, rfl⟩
        · by_cases h3 : n < 3
          · have D := Lib.hid (HI.out.none M1.out.symm M2.out.symm (Or.inl (by omega)) h3)
            clear HI
            go_wp2
            all_goals try rw [Exit.noGoto_ret]
            go_ret2
            exact ⟨0, 0, rfl, D.out, _, rfl⟩
          · have D := Lib.hid (HI.out.done M1.out.symm M2.out.symm (Or.inl (by omega)) (by omega))
            clear HI
            go_wp2
            all_goals try rw [Exit.noGoto_ret]
            go_ret2
            exact ⟨n, dist, rfl, D.out, _, rfl⟩
  · have e1 : (L : Int) - a = most := by omega
    have e2 : ((most : Nat) : Int) < 257 := by omega
    clear c1
    by_cases c2 : a ≤ 4096
    · obtain rfl : mx = a := by omega
      clear h hm1 hm2
      go_enter Try.func73, Try.ntmps73
      go_wp2
      go_step3
      go_wp2
      go_step3
      go_wp2
      go_loopg [4, 5, 7] mx (fun g nv dv iv wr => ∃ n dist d k : Nat, d + g = mx + 1 ∧ nv = .int .i64 n ∧ dv = .int .i64 dist ∧ iv = .int .i64 d ∧ BI zs mx most mx d n dist ∧ wr = w.drewN k)
      case atStart => exact ⟨0, 0, 1, 0, by omega, rfl, rfl, rfl, S.out, rfl⟩
      case round =>
        obtain ⟨n, dist, d, kw, hg, rfl, rfl, rfl, hI, rfl⟩ := hrel
        have d1 := hI.d1
        have nle := hI.le
        have HI := Lib.hid hI
        clear hI S
        by_cases hd : d ≤ mx
        · by_cases hn : n < most
          · obtain ⟨G, rfl⟩ : ∃ G, gk = G + 1 := ⟨gk - 1, by omega⟩
            go_wp2
            go_loopg [35] (n + 1) (fun g iv wr => ∃ i k : Nat, i + g = n + 1 ∧ iv = .int .i64 i ∧ run zs mx d i ∧ wr = w.drewN k)
            case atStart => exact ⟨0, kw, by omega, rfl, fun j hj => by omega, rfl⟩
            case round =>
              obtain ⟨i, k2, hig, rfl, hr, rfl⟩ := hrel
              have HR := Lib.hid hr
              clear hr
              by_cases hin : i < n + 1
              · obtain ⟨g2, rfl⟩ : ∃ g2, gk = g2 + 1 := ⟨gk - 1, by omega⟩
                obtain ⟨q, hq⟩ : ∃ q, q + d = mx + i := ⟨mx + i - d, by omega⟩
                have hqi : ((mx : Nat) : Int) + i - d = (q : Int) := by omega
                have eq1 : mx + i - d = q := by omega
                obtain ⟨bl, of1, x1, rfl, hx1, hx1a, hx1b, hc1⟩ := (HB.out.drewN k2).get (i := mx + i) (by omega)
                obtain ⟨bl2, of2, x2, hxx, hx2, hx2a, hx2b, hc2⟩ := (HB.out.drewN k2).get (i := q) (by omega)
                cases hxx
                by_cases hee : x1 = x2
                · have R2 := Lib.hid (run_succ HR.out (by rw [eq1, hx1, hx2]; exact hee))
                  subst hee
                  clear hx1 hx2 HR
                  go_wp2
                  obtain ⟨mS, mh⟩ : ∃ S : World → Prop, ∀ w', S w' ↔ (w'.cell? ⟨bl, of1 + (mx + i), none⟩ = some (.int .u8 x1) ∧ w'.cell? ⟨bl, of1 + q, none⟩ = some (.int .u8 x1)) := ⟨_, fun _ => Iff.rfl⟩
                  have mk0 : ∀ x : Memb mS, x.at_.cell? ⟨bl, of1 + (mx + i), none⟩ = some (.int .u8 x1) := fun x => ((mh _).1 x.is).1
                  have mk1 : ∀ x : Memb mS, x.at_.cell? ⟨bl, of1 + q, none⟩ = some (.int .u8 x1) := fun x => ((mh _).1 x.is).2
                  have mn : Nonempty (Memb mS) := ⟨⟨((w.drewN k2)).drew, (mh _).2 ⟨hc1, hc2⟩⟩⟩
                  have mH := Lib.hid mh
                  clear mh
                  refine wp_region_mix [] (InS mS) (by kernel_rfl) (by kernel_rfl) (InS.mk ((mH.out _).2 ⟨hc1, hc2⟩)) ?_
                  refine wpMix_seg 15 (by kernel_rfl) (by decide) ?_
                  simp only [List.take_succ_cons, List.take_zero, List.drop_succ_cons, List.drop_zero]
                  repeat (go_big_quiet_step (fail))
                  refine wpQuiet_nil ?_
                  refine wpMix_nil ?_
                  clear mk0 mk1 mn mH
                  go_wp2
                  go_roundg g2
                  case measure => omega
                  case rel => exact ⟨i + 1, k2 + 1, by omega, by go_num, R2.out, rfl⟩
                · have NR := Lib.hid (HI.out.skip (fun hr => hee (by have := hr i hin; rw [hx1, eq1, hx2] at this; exact this)))
                  have heb : (x1 == x2) = false := by simpa using hee
                  clear hx1 hx2 HR HI
                  go_wp2
                  obtain ⟨mS, mh⟩ : ∃ S : World → Prop, ∀ w', S w' ↔ (w'.cell? ⟨bl, of1 + (mx + i), none⟩ = some (.int .u8 x1) ∧ w'.cell? ⟨bl, of1 + q, none⟩ = some (.int .u8 x2)) := ⟨_, fun _ => Iff.rfl⟩
                  have mk0 : ∀ x : Memb mS, x.at_.cell? ⟨bl, of1 + (mx + i), none⟩ = some (.int .u8 x1) := fun x => ((mh _).1 x.is).1
                  have mk1 : ∀ x : Memb mS, x.at_.cell? ⟨bl, of1 + q, none⟩ = some (.int .u8 x2) := fun x => ((mh _).1 x.is).2
                  have mn : Nonempty (Memb mS) := ⟨⟨((w.drewN k2)).drew, (mh _).2 ⟨hc1, hc2⟩⟩⟩
                  have mH := Lib.hid mh
                  clear mh
                  refine wp_region_mix [] (InS mS) (by kernel_rfl) (by kernel_rfl) (InS.mk ((mH.out _).2 ⟨hc1, hc2⟩)) ?_
                  refine wpMix_seg 15 (by kernel_rfl) (by decide) ?_
                  simp only [List.take_succ_cons, List.take_zero, List.drop_succ_cons, List.drop_zero]
                  repeat (go_big_quiet_step (fail))
                  refine wpQuiet_nil ?_
                  refine wpMix_nil ?_
                  clear mk0 mk1 mn mH
                  go_wp2
                  go_roundg G
                  case measure => omega
                  case rel => exact ⟨n, dist, d + 1, k2 + 1, by omega, rfl, rfl, by go_num, NR.out, rfl⟩
              · obtain rfl : i = n + 1 := by omega
                clear hin
                go_wp2
                go_loopg [4] (most - (n + 1)) (fun g nv wr => ∃ m k : Nat, m + g = most ∧ nv = .int .i64 m ∧ n + 1 ≤ m ∧ run zs mx d m ∧ wr = w.drewN k)
                case atStart => exact ⟨n + 1, k2, by omega, by go_num, Nat.le_refl _, HR.out, rfl⟩
                case round =>
                  obtain ⟨m, k3, hmg, rfl, hnm, hr, rfl⟩ := hrel
                  have HR3 := Lib.hid hr
                  clear hr HR
                  by_cases hmm : m < most
                  · obtain ⟨g3, rfl⟩ : ∃ g3, gk = g3 + 1 := ⟨gk - 1, by omega⟩
                    have hmt : decide ((m : Int) < most) = true := decide_eq_true (by omega)
                    obtain ⟨q, hq⟩ : ∃ q, q + d = mx + m := ⟨mx + m - d, by omega⟩
                    have hqi : ((mx : Nat) : Int) + m - d = (q : Int) := by omega
                    have eq1 : mx + m - d = q := by omega
                    obtain ⟨bl, of1, x1, rfl, hx1, hx1a, hx1b, hc1⟩ := (HB.out.drewN k3).get (i := mx + m) (by omega)
                    obtain ⟨bl2, of2, x2, hxx, hx2, hx2a, hx2b, hc2⟩ := (HB.out.drewN k3).get (i := q) (by omega)
                    cases hxx
                    by_cases hee : x1 = x2
                    · have R2 := Lib.hid (run_succ HR3.out (by rw [eq1, hx1, hx2]; exact hee))
                      subst hee
                      clear hx1 hx2 HR3
                      go_wp2
                      obtain ⟨mS, mh⟩ : ∃ S : World → Prop, ∀ w', S w' ↔ (w'.cell? ⟨bl, of1 + (mx + m), none⟩ = some (.int .u8 x1) ∧ w'.cell? ⟨bl, of1 + q, none⟩ = some (.int .u8 x1)) := ⟨_, fun _ => Iff.rfl⟩
                      have mk0 : ∀ x : Memb mS, x.at_.cell? ⟨bl, of1 + (mx + m), none⟩ = some (.int .u8 x1) := fun x => ((mh _).1 x.is).1
                      have mk1 : ∀ x : Memb mS, x.at_.cell? ⟨bl, of1 + q, none⟩ = some (.int .u8 x1) := fun x => ((mh _).1 x.is).2
                      have mn : Nonempty (Memb mS) := ⟨⟨((w.drewN k3)).drew, (mh _).2 ⟨hc1, hc2⟩⟩⟩
                      have mH := Lib.hid mh
                      clear mh
                      refine wp_region_mix [] (InS mS) (by kernel_rfl) (by kernel_rfl) (InS.mk ((mH.out _).2 ⟨hc1, hc2⟩)) ?_
                      refine wpMix_seg 20 (by kernel_rfl) (by decide) ?_
                      simp only [List.take_succ_cons, List.take_zero, List.drop_succ_cons, List.drop_zero]
                      repeat (go_big_quiet_step (fail))
                      refine wpQuiet_nil ?_
                      refine wpMix_nil ?_
                      clear mk0 mk1 mn mH
                      go_wp2
                      go_roundg g3
                      case measure => omega
                      case rel => exact ⟨m + 1, k3 + 1, by omega, by go_num, by omega, R2.out, rfl⟩
                    · have NR := Lib.hid (HI.out.take hn hd hnm (by omega) HR3.out (fun _ hr => hee (by have := hr m (by omega); rw [hx1, eq1, hx2] at this; exact this)))
                      have heb : (x1 == x2) = false := by simpa using hee
                      clear hx1 hx2 HR3 HI
                      go_wp2
                      obtain ⟨mS, mh⟩ : ∃ S : World → Prop, ∀ w', S w' ↔ (w'.cell? ⟨bl, of1 + (mx + m), none⟩ = some (.int .u8 x1) ∧ w'.cell? ⟨bl, of1 + q, none⟩ = some (.int .u8 x2)) := ⟨_, fun _ => Iff.rfl⟩
                      have mk0 : ∀ x : Memb mS, x.at_.cell? ⟨bl, of1 + (mx + m), none⟩ = some (.int .u8 x1) := fun x => ((mh _).1 x.is).1
                      have mk1 : ∀ x : Memb mS, x.at_.cell? ⟨bl, of1 + q, none⟩ = some (.int .u8 x2) := fun x => ((mh _).1 x.is).2
                      have mn : Nonempty (Memb mS) := ⟨⟨((w.drewN k3)).drew, (mh _).2 ⟨hc1, hc2⟩⟩⟩
                      have mH := Lib.hid mh
                      clear mh
                      refine wp_region_mix [] (InS mS) (by kernel_rfl) (by kernel_rfl) (InS.mk ((mH.out _).2 ⟨hc1, hc2⟩)) ?_
                      refine wpMix_seg 20 (by kernel_rfl) (by decide) ?_
                      simp only [List.take_succ_cons, List.take_zero, List.drop_succ_cons, List.drop_zero]
                      repeat (go_big_quiet_step (fail))
                      refine wpQuiet_nil ?_
                      refine wpMix_nil ?_
                      clear mk0 mk1 mn mH
                      go_wp2
                      go_roundg G
                      case measure => omega
                      case rel => exact ⟨m, d, d + 1, k3 + 1, by omega, rfl, rfl, by go_num, NR.out, rfl⟩
                  · have NR := Lib.hid (HI.out.take hn hd hnm (by omega) HR3.out (fun h => by omega))
                    obtain rfl : most = m := by omega
                    clear HR3 HI hmm
                    go_wp2
                    obtain ⟨mS, mh⟩ : ∃ S : World → Prop, ∀ w', S w' ↔ (True) := ⟨_, fun _ => Iff.rfl⟩
                    have mn : Nonempty (Memb mS) := ⟨⟨((w.drewN k3)).drew, (mh _).2 trivial⟩⟩
                    have mH := Lib.hid mh
                    clear mh
                    refine wp_region_mix [] (InS mS) (by kernel_rfl) (by kernel_rfl) (InS.mk ((mH.out _).2 trivial)) ?_
                    refine wpMix_seg 20 (by kernel_rfl) (by decide) ?_
                    simp only [List.take_succ_cons, List.take_zero, List.drop_succ_cons, List.drop_zero]
                    repeat (go_big_quiet_step (fail))
                    refine wpQuiet_nil ?_
                    refine wpMix_nil ?_
                    clear  mn mH
                    go_wp2
                    go_roundg G
                    case measure => omega
                    case rel => exact ⟨most, d, d + 1, k3 + 1, by omega, rfl, rfl, by go_num, NR.out, rfl⟩
          · by_cases h3 : n < 3
            · have D := Lib.hid (HI.out.none M1.out.symm M2.out.symm (Or.inr (by omega)) h3)
              clear HI
              go_wp2
              all_goals try rw [Exit.noGoto_ret]
              all_goals go_ret2
              all_goals exact ⟨0, 0, rfl, D.out, _, rfl⟩
            · have D := Lib.hid (HI.out.done M1.out.symm M2.out.symm (Or.inr (by omega)) (by omega))
              clear HI
              go_wp2
              all_goals try rw [Exit.noGoto_ret]
              all_goals go_ret2
              all_goals exact ⟨n, dist, rfl, D.out, _, rfl⟩
        · by_cases h3 : n < 3
          · have D := Lib.hid (HI.out.none M1.out.symm M2.out.symm (Or.inl (by omega)) h3)
            clear HI
            go_wp2
            all_goals try rw [Exit.noGoto_ret]
            go_ret2
            exact ⟨0, 0, rfl, D.out, _, rfl⟩
          · have D := Lib.hid (HI.out.done M1.out.symm M2.out.symm (Or.inl (by omega)) (by omega))
            clear HI
            go_wp2
            all_goals try rw [Exit.noGoto_ret]
            go_ret2
            exact ⟨n, dist, rfl, D.out, _, rfl⟩
    · obtain rfl : mx = 4096 := by omega
      clear h hm1 hm2
      go_enter Try.func73, Try.ntmps73
      go_wp2
      go_step3
      go_wp2
      go_step3
      go_wp2
      go_loopg [4, 5, 7] 4096 (fun g nv dv iv wr => ∃ n dist d k : Nat, d + g = 4096 + 1 ∧ nv = .int .i64 n ∧ dv = .int .i64 dist ∧ iv = .int .i64 d ∧ BI zs a most 4096 d n dist ∧ wr = w.drewN k)
      case atStart => exact ⟨0, 0, 1, 0, by omega, rfl, rfl, rfl, S.out, rfl⟩
      case round =>
        obtain ⟨n, dist, d, kw, hg, rfl, rfl, rfl, hI, rfl⟩ := hrel
        have d1 := hI.d1
        have nle := hI.le
        have HI := Lib.hid hI
        clear hI S
        by_cases hd : d ≤ 4096
        · by_cases hn : n < most
          · obtain ⟨G, rfl⟩ : ∃ G, gk = G + 1 := ⟨gk - 1, by omega⟩
            go_wp2
            go_loopg [35] (n + 1) (fun g iv wr => ∃ i k : Nat, i + g = n + 1 ∧ iv = .int .i64 i ∧ run zs a d i ∧ wr = w.drewN k)
            case atStart => exact ⟨0, kw, by omega, rfl, fun j hj => by omega, rfl⟩
            case round =>
              obtain ⟨i, k2, hig, rfl, hr, rfl⟩ := hrel
              have HR := Lib.hid hr
              clear hr
              by_cases hin : i < n + 1
              · obtain ⟨g2, rfl⟩ : ∃ g2, gk = g2 + 1 := ⟨gk - 1, by omega⟩
                obtain ⟨q, hq⟩ : ∃ q, q + d = a + i := ⟨a + i - d, by omega⟩
                have hqi : ((a : Nat) : Int) + i - d = (q : Int) := by omega
                have eq1 : a + i - d = q := by omega
                obtain ⟨bl, of1, x1, rfl, hx1, hx1a, hx1b, hc1⟩ := (HB.out.drewN k2).get (i := a + i) (by omega)
                obtain ⟨bl2, of2, x2, hxx, hx2, hx2a, hx2b, hc2⟩ := (HB.out.drewN k2).get (i := q) (by omega)
                cases hxx
                by_cases hee : x1 = x2
                · have R2 := Lib.hid (run_succ HR.out (by rw [eq1, hx1, hx2]; exact hee))
                  subst hee
                  clear hx1 hx2 HR
                  go_wp2
                  obtain ⟨mS, mh⟩ : ∃ S : World → Prop, ∀ w', S w' ↔ (w'.cell? ⟨bl, of1 + (a + i), none⟩ = some (.int .u8 x1) ∧ w'.cell? ⟨bl, of1 + q, none⟩ = some (.int .u8 x1)) := ⟨_, fun _ => Iff.rfl⟩
                  have mk0 : ∀ x : Memb mS, x.at_.cell? ⟨bl, of1 + (a + i), none⟩ = some (.int .u8 x1) := fun x => ((mh _).1 x.is).1
                  have mk1 : ∀ x : Memb mS, x.at_.cell? ⟨bl, of1 + q, none⟩ = some (.int .u8 x1) := fun x => ((mh _).1 x.is).2
                  have mn : Nonempty (Memb mS) := ⟨⟨((w.drewN k2)).drew, (mh _).2 ⟨hc1, hc2⟩⟩⟩
                  have mH := Lib.hid mh
                  clear mh
                  refine wp_region_mix [] (InS mS) (by kernel_rfl) (by kernel_rfl) (InS.mk ((mH.out _).2 ⟨hc1, hc2⟩)) ?_
                  refine wpMix_seg 15 (by kernel_rfl) (by decide) ?_
                  simp only [List.take_succ_cons, List.take_zero, List.drop_succ_cons, List.drop_zero]
                  repeat (go_big_quiet_step (fail))
                  refine wpQuiet_nil ?_
                  refine wpMix_nil ?_
                  clear mk0 mk1 mn mH
                  go_wp2
                  go_roundg g2
                  case measure => omega
                  case rel => exact ⟨i + 1, k2 + 1, by omega, by go_num, R2.out, rfl⟩
                · have NR := Lib.hid (HI.out.skip (fun hr => hee (by have := hr i hin; rw [hx1, eq1, hx2] at this; exact this)))
                  have heb : (x1 == x2) = false := by simpa using hee
                  clear hx1 hx2 HR HI
                  go_wp2
                  obtain ⟨mS, mh⟩ : ∃ S : World → Prop, ∀ w', S w' ↔ (w'.cell? ⟨bl, of1 + (a + i), none⟩ = some (.int .u8 x1) ∧ w'.cell? ⟨bl, of1 + q, none⟩ = some (.int .u8 x2)) := ⟨_, fun _ => Iff.rfl⟩
                  have mk0 : ∀ x : Memb mS, x.at_.cell? ⟨bl, of1 + (a + i), none⟩ = some (.int .u8 x1) := fun x => ((mh _).1 x.is).1
                  have mk1 : ∀ x : Memb mS, x.at_.cell? ⟨bl, of1 + q, none⟩ = some (.int .u8 x2) := fun x => ((mh _).1 x.is).2
                  have mn : Nonempty (Memb mS) := ⟨⟨((w.drewN k2)).drew, (mh _).2 ⟨hc1, hc2⟩⟩⟩
                  have mH := Lib.hid mh
                  clear mh
                  refine wp_region_mix [] (InS mS) (by kernel_rfl) (by kernel_rfl) (InS.mk ((mH.out _).2 ⟨hc1, hc2⟩)) ?_
                  refine wpMix_seg 15 (by kernel_rfl) (by decide) ?_
                  simp only [List.take_succ_cons, List.take_zero, List.drop_succ_cons, List.drop_zero]
                  repeat (go_big_quiet_step (fail))
                  refine wpQuiet_nil ?_
                  refine wpMix_nil ?_
                  clear mk0 mk1 mn mH
                  go_wp2
                  go_roundg G
                  case measure => omega
                  case rel => exact ⟨n, dist, d + 1, k2 + 1, by omega, rfl, rfl, by go_num, NR.out, rfl⟩
              · obtain rfl : i = n + 1 := by omega
                clear hin
                go_wp2
                go_loopg [4] (most - (n + 1)) (fun g nv wr => ∃ m k : Nat, m + g = most ∧ nv = .int .i64 m ∧ n + 1 ≤ m ∧ run zs a d m ∧ wr = w.drewN k)
                case atStart => exact ⟨n + 1, k2, by omega, by go_num, Nat.le_refl _, HR.out, rfl⟩
                case round =>
                  obtain ⟨m, k3, hmg, rfl, hnm, hr, rfl⟩ := hrel
                  have HR3 := Lib.hid hr
                  clear hr HR
                  by_cases hmm : m < most
                  · obtain ⟨g3, rfl⟩ : ∃ g3, gk = g3 + 1 := ⟨gk - 1, by omega⟩
                    have hmt : decide ((m : Int) < most) = true := decide_eq_true (by omega)
                    obtain ⟨q, hq⟩ : ∃ q, q + d = a + m := ⟨a + m - d, by omega⟩
                    have hqi : ((a : Nat) : Int) + m - d = (q : Int) := by omega
                    have eq1 : a + m - d = q := by omega
                    obtain ⟨bl, of1, x1, rfl, hx1, hx1a, hx1b, hc1⟩ := (HB.out.drewN k3).get (i := a + m) (by omega)
                    obtain ⟨bl2, of2, x2, hxx, hx2, hx2a, hx2b, hc2⟩ := (HB.out.drewN k3).get (i := q) (by omega)
                    cases hxx
                    by_cases hee : x1 = x2
                    · have R2 := Lib.hid (run_succ HR3.out (by rw [eq1, hx1, hx2]; exact hee))
                      subst hee
                      clear hx1 hx2 HR3
                      go_wp2
                      obtain ⟨mS, mh⟩ : ∃ S : World → Prop, ∀ w', S w' ↔ (w'.cell? ⟨bl, of1 + (a + m), none⟩ = some (.int .u8 x1) ∧ w'.cell? ⟨bl, of1 + q, none⟩ = some (.int .u8 x1)) := ⟨_, fun _ => Iff.rfl⟩
                      have mk0 : ∀ x : Memb mS, x.at_.cell? ⟨bl, of1 + (a + m), none⟩ = some (.int .u8 x1) := fun x => ((mh _).1 x.is).1
                      have mk1 : ∀ x : Memb mS, x.at_.cell? ⟨bl, of1 + q, none⟩ = some (.int .u8 x1) := fun x => ((mh _).1 x.is).2
                      have mn : Nonempty (Memb mS) := ⟨⟨((w.drewN k3)).drew, (mh _).2 ⟨hc1, hc2⟩⟩⟩
                      have mH := Lib.hid mh
                      clear mh
                      refine wp_region_mix [] (InS mS) (by kernel_rfl) (by kernel_rfl) (InS.mk ((mH.out _).2 ⟨hc1, hc2⟩)) ?_
                      refine wpMix_seg 20 (by kernel_rfl) (by decide) ?_
                      simp only [List.take_succ_cons, List.take_zero, List.drop_succ_cons, List.drop_zero]
                      repeat (go_big_quiet_step (fail))
                      refine wpQuiet_nil ?_
                      refine wpMix_nil ?_
                      clear mk0 mk1 mn mH
                      go_wp2
                      go_roundg g3
                      case measure => omega
                      case rel => exact ⟨m + 1, k3 + 1, by omega, by go_num, by omega, R2.out, rfl⟩
                    · have NR := Lib.hid (HI.out.take hn hd hnm (by omega) HR3.out (fun _ hr => hee (by have := hr m (by omega); rw [hx1, eq1, hx2] at this; exact this)))
                      have heb : (x1 == x2) = false := by simpa using hee
                      clear hx1 hx2 HR3 HI
                      go_wp2
                      obtain ⟨mS, mh⟩ : ∃ S : World → Prop, ∀ w', S w' ↔ (w'.cell? ⟨bl, of1 + (a + m), none⟩ = some (.int .u8 x1) ∧ w'.cell? ⟨bl, of1 + q, none⟩ = some (.int .u8 x2)) := ⟨_, fun _ => Iff.rfl⟩
                      have mk0 : ∀ x : Memb mS, x.at_.cell? ⟨bl, of1 + (a + m), none⟩ = some (.int .u8 x1) := fun x => ((mh _).1 x.is).1
                      have mk1 : ∀ x : Memb mS, x.at_.cell? ⟨bl, of1 + q, none⟩ = some (.int .u8 x2) := fun x => ((mh _).1 x.is).2
                      have mn : Nonempty (Memb mS) := ⟨⟨((w.drewN k3)).drew, (mh _).2 ⟨hc1, hc2⟩⟩⟩
                      have mH := Lib.hid mh
                      clear mh
                      refine wp_region_mix [] (InS mS) (by kernel_rfl) (by kernel_rfl) (InS.mk ((mH.out _).2 ⟨hc1, hc2⟩)) ?_
                      refine wpMix_seg 20 (by kernel_rfl) (by decide) ?_
                      simp only [List.take_succ_cons, List.take_zero, List.drop_succ_cons, List.drop_zero]
                      repeat (go_big_quiet_step (fail))
                      refine wpQuiet_nil ?_
                      refine wpMix_nil ?_
                      clear mk0 mk1 mn mH
                      go_wp2
                      go_roundg G
                      case measure => omega
                      case rel => exact ⟨m, d, d + 1, k3 + 1, by omega, rfl, rfl, by go_num, NR.out, rfl⟩
                  · have NR := Lib.hid (HI.out.take hn hd hnm (by omega) HR3.out (fun h => by omega))
                    obtain rfl : most = m := by omega
                    clear HR3 HI hmm
                    go_wp2
                    obtain ⟨mS, mh⟩ : ∃ S : World → Prop, ∀ w', S w' ↔ (True) := ⟨_, fun _ => Iff.rfl⟩
                    have mn : Nonempty (Memb mS) := ⟨⟨((w.drewN k3)).drew, (mh _).2 trivial⟩⟩
                    have mH := Lib.hid mh
                    clear mh
                    refine wp_region_mix [] (InS mS) (by kernel_rfl) (by kernel_rfl) (InS.mk ((mH.out _).2 trivial)) ?_
                    refine wpMix_seg 20 (by kernel_rfl) (by decide) ?_
                    simp only [List.take_succ_cons, List.take_zero, List.drop_succ_cons, List.drop_zero]
                    repeat (go_big_quiet_step (fail))
                    refine wpQuiet_nil ?_
                    refine wpMix_nil ?_
                    clear  mn mH
                    go_wp2
                    go_roundg G
                    case measure => omega
                    case rel => exact ⟨most, d, d + 1, k3 + 1, by omega, rfl, rfl, by go_num, NR.out, rfl⟩
          · by_cases h3 : n < 3
            · have D := Lib.hid (HI.out.none M1.out.symm M2.out.symm (Or.inr (by omega)) h3)
              clear HI
              go_wp2
              all_goals try rw [Exit.noGoto_ret]
              all_goals go_ret2
              all_goals exact ⟨0, 0, rfl, D.out, _, rfl⟩
            · have D := Lib.hid (HI.out.done M1.out.symm M2.out.symm (Or.inr (by omega)) (by omega))
              clear HI
              go_wp2
              all_goals try rw [Exit.noGoto_ret]
              all_goals go_ret2
              all_goals exact ⟨n, dist, rfl, D.out, _, rfl⟩
        · by_cases h3 : n < 3
          · have D := Lib.hid (HI.out.none M1.out.symm M2.out.symm (Or.inl (by omega)) h3)
            clear HI
            go_wp2
            all_goals try rw [Exit.noGoto_ret]
            go_ret2
            exact ⟨0, 0, rfl, D.out, _, rfl⟩
          · have D := Lib.hid (HI.out.done M1.out.symm M2.out.symm (Or.inl (by omega)) (by omega))
            clear HI
            go_wp2
            all_goals try rw [Exit.noGoto_ret]
            go_ret2
            exact ⟨n, dist, rfl, D.out, _, rfl⟩
end Go.Proofs.Ytggjdkkobhefeaa
