/- The reference's Best, Tokens, Squeeze and SameTokens: the same as what squeeze tells. -/
import Derived.Test.YtknjmpeopikffaaSqPack
namespace Go.Proofs.Ytknjmpeopikffaa
open Go.RowKit

theorem BI.skip2 {zs : List Int} {a most mx d n dist : Nat} (h : BI zs a most mx d n dist) (hn : n < most → ¬ run zs a d (n + 1)) : BI zs a most mx (d + 1) n dist :=
  ⟨h.le, by have := h.d1; omega, h.zero, fun hp => by obtain ⟨h1, h2, h3, h4⟩ := h.pos hp; exact ⟨h1, by omega, h3, h4⟩, fun hl d' h1 h2 => by
    by_cases e : d' < d
    · exact h.best hl d' h1 e
    · obtain rfl : d' = d := by omega
      exact hn hl, h.near⟩
theorem BI.round {zs : List Int} {a most mx d n dist m : Nat} (h : BI zs a most mx d n dist) (hd : d ≤ mx) (hm2 : m ≤ most) (hr : run zs a d m) (hs : m < most → ¬ run zs a d (m + 1)) :
    (n < m → BI zs a most mx (d + 1) m d) ∧ (¬ n < m → BI zs a most mx (d + 1) n dist) :=
  ⟨fun hh => h.take (by omega) hd (by omega) hm2 hr hs, fun hh => h.skip2 (fun hl hx => hs (by omega) (run_mono hx (by omega)))⟩
theorem BestOf.at0 {zs : List Int} : BestOf zs 0 0 0 := (BI.start zs 0 (min 257 (zs.length - 0)) 0).none rfl rfl (Or.inl (by decide)) (by decide)

set_option maxRecDepth 100000 in
set_option maxHeartbeats 1600000 in
theorem rqbest_any (A : Option Addr) (L cap : Nat) (zs : List Int) (a : Nat) (w : World) (h : Bs w A L cap zs) (ha : a < L) :
    Calls Try.prog 43 #[.slice A L cap, .int .i64 a] w fun e w' => ∃ n dist : Nat, e = .returned (.tuple #[.int .i64 n, .int .i64 dist]) ∧ BestOf zs a n dist ∧ ∃ k, w' = w.drewN k := by
  have hle := h.le
  have hmax := h.max
  have HB := Lib.hid h
  have e5 := h.len
  by_cases a0 : a = 0
  · subst a0
    clear h e5
    go_enter Try.func43, Try.ntmps43
    go_wp2
    go_loopw [6, 7, 8] (fun nv dv iv wr => nv = .int .i64 (0 : Int) ∧ dv = .int .i64 (0 : Int) ∧ iv = .int .i64 (1 : Int) ∧ wr = w) (fun _ _ _ _ => 0)
    case atStart => exact ⟨rfl, rfl, rfl, rfl⟩
    case round =>
      obtain ⟨rfl, rfl, rfl, rfl⟩ := hrel
      go_wp2
      go_ret2
      exact ⟨0, 0, rfl, BestOf.at0, 0, rfl⟩
  obtain ⟨most, hm1⟩ : ∃ most : Nat, min 257 (L - a) = most := ⟨_, rfl⟩
  obtain ⟨mx, hm2⟩ : ∃ mx : Nat, min a 4096 = mx := ⟨_, rfl⟩
  have e3 : a + most ≤ L := by omega
  have e3' : most ≤ 257 := by omega
  have e3o : Hid (most = 257 ∨ a + most = L) := show _ ∨ _ by omega
  have e4 : mx ≤ a := by omega
  have e4' : mx ≤ 4096 := by omega
  have e4o : Hid (mx = a ∨ mx = 4096) := show _ ∨ _ by omega
  have S := Lib.hid (BI.start zs a most mx)
  have M1 : Hid (most = min 257 (zs.length - a)) := show _ = _ by omega
  have M2 := Lib.hid hm2.symm
  have HL := Lib.hid e5
  have g1 : decide ((0 : Int) < a) = true := decide_eq_true (by omega)
  have g2 : decide ((a : Int) < L) = true := decide_eq_true (by omega)
  have g3 : 0 < a := by omega
  clear h hm1 hm2 e5 a0
  go_enter Try.func43, Try.ntmps43
  go_wp2
  go_loopw [6, 7, 8] (fun nv dv iv wr => ∃ n dist d k : Nat, d ≤ mx + 1 ∧ nv = .int .i64 n ∧ dv = .int .i64 dist ∧ iv = .int .i64 d ∧ BI zs a most mx d n dist ∧ wr = w.drewN k) (fun _ _ iv _ => mx + 1 - (intOf iv).toNat)
  case atStart => exact ⟨0, 0, 1, 0, by omega, rfl, rfl, rfl, S.out, rfl⟩
  case round =>
    obtain ⟨n, dist, d, kw, hg, rfl, rfl, rfl, hI, rfl⟩ := hrel
    have d1 := hI.d1
    have nle := hI.le
    have HI := Lib.hid hI
    clear hI S
    by_cases hd : d ≤ mx
    · have q1 : decide ((d : Int) ≤ a) = true := decide_eq_true (by omega)
      have q2 : decide ((d : Int) ≤ 4096) = true := decide_eq_true (by omega)
      go_wp2
      go_loopw [9] (fun mv wr => ∃ m k : Nat, m ≤ most ∧ mv = .int .i64 m ∧ run zs a d m ∧ wr = w.drewN k) (fun mv _ => most - (intOf mv).toNat)
      case atStart => exact ⟨0, kw, Nat.zero_le _, rfl, fun j hj => by omega, rfl⟩
      case round =>
        obtain ⟨m, k2, hmm, rfl, hr, rfl⟩ := hrel
        have HR := Lib.hid hr
        have HB3 := Lib.hid (HB.out.drewN k2)
        clear hr
        by_cases q3 : m = 257
        · subst q3
          have NB := Lib.hid (HI.out.round hd hmm HR.out (fun h => by omega))
          clear HI HR HB3
          go_wp2
          obtain ⟨mS, mh⟩ : ∃ S : World → Prop, ∀ w', S w' ↔ (True) := ⟨_, fun _ => Iff.rfl⟩
          have mn : Nonempty (Memb mS) := ⟨⟨((w.drewN k2)).drew, (mh _).2 trivial⟩⟩
          have mH := Lib.hid mh
          clear mh
          refine wp_region_mix [] (InS mS) (by kernel_rfl) (by kernel_rfl) (InS.mk ((mH.out _).2 trivial)) ?_
          refine wpMix_seg 27 (by kernel_rfl) (by decide) ?_
          simp only [List.take_succ_cons, List.take_zero, List.drop_succ_cons, List.drop_zero]
          repeat (go_big_quiet_step (fail))
          refine wpQuiet_nil ?_
          refine wpMix_nil ?_
          clear  mn mH
          by_cases hc : n < 257
          · have NB2 := Lib.hid (NB.out.1 hc)
            clear NB
            go_wp2
            go_roundw
            case rel => exact ⟨257, d, d + 1, k2 + 1, by omega, rfl, rfl, by go_num, NB2.out, rfl⟩
            case measure => simp [intOf]; omega
          · have NB2 := Lib.hid (NB.out.2 hc)
            clear NB
            go_wp2
            go_roundw
            case rel => exact ⟨n, dist, d + 1, k2 + 1, by omega, rfl, rfl, by go_num, NB2.out, rfl⟩
            case measure => simp [intOf]; omega
        have q4 : decide ((m : Int) < 257) = true := decide_eq_true (by omega)
        by_cases q5 : a + m = L
        · have NB := Lib.hid (HI.out.round hd hmm HR.out (fun h => by omega))
          have q6 : decide ((a : Int) + m < L) = false := decide_eq_false (by omega)
          clear HI HR HB3
          go_wp2
          obtain ⟨mS, mh⟩ : ∃ S : World → Prop, ∀ w', S w' ↔ (True) := ⟨_, fun _ => Iff.rfl⟩
          have mn : Nonempty (Memb mS) := ⟨⟨((w.drewN k2)).drew, (mh _).2 trivial⟩⟩
          have mH := Lib.hid mh
          clear mh
          refine wp_region_mix [] (InS mS) (by kernel_rfl) (by kernel_rfl) (InS.mk ((mH.out _).2 trivial)) ?_
          refine wpMix_seg 27 (by kernel_rfl) (by decide) ?_
          simp only [List.take_succ_cons, List.take_zero, List.drop_succ_cons, List.drop_zero]
          repeat (go_big_quiet_step (fail))
          refine wpQuiet_nil ?_
          refine wpMix_nil ?_
          clear  mn mH
          by_cases hc : n < m
          · have NB2 := Lib.hid (NB.out.1 hc)
            clear NB
            go_wp2
            go_roundw
            case rel => exact ⟨m, d, d + 1, k2 + 1, by omega, rfl, rfl, by go_num, NB2.out, rfl⟩
            case measure => simp [intOf]; omega
          · have NB2 := Lib.hid (NB.out.2 hc)
            clear NB
            go_wp2
            go_roundw
            case rel => exact ⟨n, dist, d + 1, k2 + 1, by omega, rfl, rfl, by go_num, NB2.out, rfl⟩
            case measure => simp [intOf]; omega
        have q6 : decide ((a : Int) + m < L) = true := decide_eq_true (by omega)
        have hlt : m < most := by have := e3o.out; omega
        obtain ⟨q, hq⟩ : ∃ q, q + d = a + m := ⟨a + m - d, by omega⟩
        have hqi : (a : Int) + m - d = (q : Int) := by omega
        have eq1 : a + m - d = q := by omega
        obtain ⟨bl, of1, x1, rfl, hx1, hx1a, hx1b, hc1⟩ := HB3.out.get (i := a + m) (by omega)
        obtain ⟨bl2, of2, x2, hxx, hx2, hx2a, hx2b, hc2⟩ := HB3.out.get (i := q) (by omega)
        cases hxx
        by_cases hee : x1 = x2
        · have R2 := Lib.hid (run_succ HR.out (by rw [eq1, hx1, hx2]; exact hee))
          subst hee
          clear hx1 hx2 HR
          go_wp2
          obtain ⟨mS, mh⟩ : ∃ S : World → Prop, ∀ w', S w' ↔ (w'.cell? ⟨bl, of1 + (a + m), none⟩ = some (.int .u8 x1) ∧ w'.cell? ⟨bl, of1 + q, none⟩ = some (.int .u8 x1)) := ⟨_, fun _ => Iff.rfl⟩
          have mk0 : ∀ x : Memb mS, x.at_.cell? ⟨bl, of1 + (a + m), none⟩ = some (.int .u8 x1) := fun x => ((mh _).1 x.is).1
          have mk1 : ∀ x : Memb mS, x.at_.cell? ⟨bl, of1 + q, none⟩ = some (.int .u8 x1) := fun x => ((mh _).1 x.is).2
          have mn : Nonempty (Memb mS) := ⟨⟨((w.drewN k2)).drew, (mh _).2 ⟨hc1, hc2⟩⟩⟩
          have mH := Lib.hid mh
          clear mh
          refine wp_region_mix [] (InS mS) (by kernel_rfl) (by kernel_rfl) (InS.mk ((mH.out _).2 ⟨hc1, hc2⟩)) ?_
          refine wpMix_seg 27 (by kernel_rfl) (by decide) ?_
          simp only [List.take_succ_cons, List.take_zero, List.drop_succ_cons, List.drop_zero]
          repeat (go_big_quiet_step (fail))
          refine wpQuiet_nil ?_
          refine wpMix_nil ?_
          clear mk0 mk1 mn mH
          go_wp2
          go_roundw
          case rel => exact ⟨m + 1, k2 + 1, by omega, by go_num, R2.out, rfl⟩
          case measure => simp [intOf]; omega
        · have heb : (x1 == x2) = false := by simpa using hee
          have NB := Lib.hid (HI.out.round hd hmm HR.out (fun _ hr => hee (by have := hr m (by omega); rw [hx1, eq1, hx2] at this; exact this)))
          clear hx1 hx2 HR HI
          go_wp2
          obtain ⟨mS, mh⟩ : ∃ S : World → Prop, ∀ w', S w' ↔ (w'.cell? ⟨bl, of1 + (a + m), none⟩ = some (.int .u8 x1) ∧ w'.cell? ⟨bl, of1 + q, none⟩ = some (.int .u8 x2)) := ⟨_, fun _ => Iff.rfl⟩
          have mk0 : ∀ x : Memb mS, x.at_.cell? ⟨bl, of1 + (a + m), none⟩ = some (.int .u8 x1) := fun x => ((mh _).1 x.is).1
          have mk1 : ∀ x : Memb mS, x.at_.cell? ⟨bl, of1 + q, none⟩ = some (.int .u8 x2) := fun x => ((mh _).1 x.is).2
          have mn : Nonempty (Memb mS) := ⟨⟨((w.drewN k2)).drew, (mh _).2 ⟨hc1, hc2⟩⟩⟩
          have mH := Lib.hid mh
          clear mh
          refine wp_region_mix [] (InS mS) (by kernel_rfl) (by kernel_rfl) (InS.mk ((mH.out _).2 ⟨hc1, hc2⟩)) ?_
          refine wpMix_seg 27 (by kernel_rfl) (by decide) ?_
          simp only [List.take_succ_cons, List.take_zero, List.drop_succ_cons, List.drop_zero]
          repeat (go_big_quiet_step (fail))
          refine wpQuiet_nil ?_
          refine wpMix_nil ?_
          clear mk0 mk1 mn mH
          clear hc1 hc2 HB3
          by_cases hc : n < m
          · have NB2 := Lib.hid (NB.out.1 hc)
            clear NB
            go_wp2
            go_roundw
            case rel => exact ⟨m, d, d + 1, k2 + 1, by omega, rfl, rfl, by go_num, NB2.out, rfl⟩
            case measure => simp [intOf]; omega
          · have NB2 := Lib.hid (NB.out.2 hc)
            clear NB
            go_wp2
            go_roundw
            case rel => exact ⟨n, dist, d + 1, k2 + 1, by omega, rfl, rfl, by go_num, NB2.out, rfl⟩
            case measure => simp [intOf]; omega
    · by_cases q1 : d ≤ a
      · have q2 : decide ((d : Int) ≤ a) = true := decide_eq_true (by omega)
        have q3 : decide ((d : Int) ≤ 4096) = false := decide_eq_false (by have := e4o.out; omega)
        by_cases h3 : n < 3
        · have D := Lib.hid (HI.out.none M1.out M2.out (Or.inl (by omega)) h3)
          clear HI
          go_wp2
          go_ret2
          exact ⟨0, 0, rfl, D.out, _, rfl⟩
        · have D := Lib.hid (HI.out.done M1.out M2.out (Or.inl (by omega)) (by omega))
          clear HI
          go_wp2
          go_ret2
          exact ⟨n, dist, rfl, D.out, _, rfl⟩
      · have q2 : decide ((d : Int) ≤ a) = false := decide_eq_false (by omega)
        by_cases h3 : n < 3
        · have D := Lib.hid (HI.out.none M1.out M2.out (Or.inl (by omega)) h3)
          clear HI
          go_wp2
          go_ret2
          exact ⟨0, 0, rfl, D.out, _, rfl⟩
        · have D := Lib.hid (HI.out.done M1.out M2.out (Or.inl (by omega)) (by omega))
          clear HI
          go_wp2
          go_ret2
          exact ⟨n, dist, rfl, D.out, _, rfl⟩

set_option maxRecDepth 100000 in
set_option maxHeartbeats 1600000 in
theorem rqtok_any (A : Option Addr) (L cap : Nat) (zs : List Int) (w : World) (h : Bs w A L cap zs) : Calls Try.prog 46 #[.slice A L cap] w (TokTold w zs) := by
  have hle := h.le
  have hmax := h.max
  have HL := Lib.hid h.len
  have HB := Lib.hid h
  clear h
  by_cases h8 : 8192 < L
  · have d1 : decide ((0 : Int) < L) = true := decide_eq_true (by omega)
    have d2 : decide ((L : Int) ≤ 8192) = false := decide_eq_false (by omega)
    have E : Hid (sqT zs = []) := if_pos (by rw [HL.out]; exact h8)
    go_enter Try.func46, Try.ntmps46
    go_wp2
    go_loopw [3, 4] (fun ov av wr => ov = .slice none 0 0 ∧ av = .int .i64 (0 : Int) ∧ wr = w) (fun _ _ _ => 0)
    case atStart => exact ⟨rfl, rfl, rfl⟩
    case round =>
      obtain ⟨rfl, rfl, rfl⟩ := hrel
      go_wp2
      go_ret
      exact ⟨_, rfl, by rw [E.out]; exact OwnT.nil _ _, by rw [E.out]; simp, fun hh => by have := HL.out; omega, Keeps.refl _ _⟩
  have g1 : decide ((L : Int) ≤ 8192) = true := decide_eq_true (by omega)
  have BY := Lib.hid HB.out.byte
  go_enter Try.func46, Try.ntmps46
  go_wp2
  go_loopw [3, 4] (fun ov av wr => ∃ (a : Nat) (ts : List Tok), a ≤ L ∧ av = .int .i64 a ∧ TokTo zs ts a ∧ OwnT wr w.heap.size ov ts ∧ Keeps None w wr) (fun _ av _ => L - (intOf av).toNat)
  case atStart => exact ⟨0, [], Nat.zero_le _, rfl, TokTo.start, OwnT.nil _ _, Keeps.refl _ _⟩
  case round =>
    obtain ⟨a, ts, haL, rfl, hT, hO, hK⟩ := hrel
    by_cases hlt : a < L
    · obtain ⟨bl, of1, x1, rfl, hx1, hx1a, hx1b, hc1⟩ := (HB.out.keeps hK (fun _ _ _ _ _ h => h)).get hlt
      have HT := Lib.hid hT
      have HO := Lib.hid hO
      have HK := Lib.hid hK
      have HX := Lib.hid hx1
      clear hT hO hK hx1
      go_wp2_with fail
      refine (rqbest_any _ _ _ zs a _ (HB.out.keeps HK.out (fun _ _ _ _ _ h => h)) hlt).mono ?_
      rintro e w' ⟨n, d, rfl, hbest, k, rfl⟩
      have HBE := Lib.hid hbest
      have nle := hbest.le
      clear hbest
      have lenle := HT.out.len
      have lenle2 : ts.length ≤ 8192 := by have := HL.out; omega
      have KK := Lib.hid ((Keeps.refl None wr).drewN k)
      by_cases hn : 0 < n
      · have ST : Hid (TokTo zs (ts ++ [⟨n, d, 0⟩]) (a + n)) := by
          have := TokTo.step HT.out (by rw [HL.out]; exact hlt) HBE.out
          rwa [if_pos hn, if_pos hn] at this
        have hnz : ((n : Int) == 0) = false := by simp; omega
        have nle2 : n ≤ 257 := nle.1
        have nle3 : a + n ≤ L := by have h1 := nle.2; have h2 := HL.out; omega
        clear nle
        go_wp2_with (at_builtin; refine Hid.out ?_)
        refine Lib.hid ?_
        refine wpList_append_tok (ts := ts) (B := w.heap.size) (T := 43) ⟨n, d, 0⟩ ((HO.out.keeps KK.out (fun _ _ h => h)).keeps ((Keeps.refl None _).alloc _) (fun _ _ h => h)) (Blk.newAt (b := wr.heap.size) (by simp) (tcell ⟨n, d, 0⟩) 43) (by omega) (Nat.le_trans HK.out.size ((KK.out.alloc _).size)) rfl rfl rfl rfl rfl ?_
        intro v' w4 ho4 hk4
        have K4 := Lib.hid ((HK.out.trans (KK.out.alloc (.cells #[.int .i64 n, .int .i64 d, .int .u8 0] 43)) (T := None) (fun _ h => h) (fun _ _ h => h)).trans hk4 (T := None) (fun _ h => h) (fun i hi h => absurd (HO.out.block h).1 (by omega)))
        have HO4 := Lib.hid ho4
        clear hk4 ho4 KK HO HX HBE HK
        go_wp2
        go_roundw
        case rel => exact ⟨a + n, _, by have := HL.out; omega, by go_num, ST.out, HO4.out, K4.out⟩
        case measure => simp [intOf]; omega
      · obtain rfl : n = 0 := by omega
        have ST : Hid (TokTo zs (ts ++ [⟨0, 0, x1⟩]) (a + 1)) := by
          have := TokTo.step HT.out (by rw [HL.out]; exact hlt) HBE.out
          rwa [if_neg (by decide), if_neg (by decide), HX.out] at this
        clear nle
        go_wp2_with (at_builtin; refine Hid.out ?_)
        refine Lib.hid ?_
        refine wpList_append_tok (ts := ts) (B := w.heap.size) (T := 43) ⟨0, 0, x1⟩ ((HO.out.keeps KK.out (fun _ _ h => h)).keeps ((Keeps.refl None _).alloc _) (fun _ _ h => h)) (Blk.newAt (b := wr.heap.size) (by simp) (tcell ⟨0, 0, x1⟩) 43) (by omega) (Nat.le_trans HK.out.size ((KK.out.alloc _).size)) rfl rfl rfl rfl rfl ?_
        intro v' w4 ho4 hk4
        have K4 := Lib.hid ((HK.out.trans (KK.out.alloc (.cells #[.int .i64 0, .int .i64 0, .int .u8 x1] 43)) (T := None) (fun _ h => h) (fun _ _ h => h)).trans hk4 (T := None) (fun _ h => h) (fun i hi h => absurd (HO.out.block h).1 (by omega)))
        have HO4 := Lib.hid ho4
        clear hk4 ho4 KK HO HX HBE HK
        go_wp2
        go_roundw
        case rel => exact ⟨a + 1, _, by have := HL.out; omega, by go_num, ST.out, HO4.out, K4.out⟩
        case measure => simp [intOf]; omega
    · obtain rfl : a = L := by omega
      have E : Hid (sqT zs = ts) := by show _ = _; unfold sqT; rw [if_neg (by rw [HL.out]; omega)]; exact tokF_eq (by rw [HL.out]; exact hT)
      have HT := Lib.hid hT
      have HO := Lib.hid hO
      have HK := Lib.hid hK
      clear hT hO hK
      go_wp2
      go_ret
      exact ⟨_, rfl, by rw [E.out]; exact HO.out, by rw [E.out]; exact HT.out.wf BY.out (by rw [HL.out]; omega), fun _ => by rw [E.out, HL.out]; exact HT.out, HK.out⟩
set_option maxRecDepth 100000 in
theorem rqsq_any (A : Option Addr) (L cap : Nat) (zs : List Int) (w : World) (h : Bs w A L cap zs) : Calls Try.prog 45 #[.slice A L cap] w (Paired w (sqP zs)) := by
  have hle := h.le
  have hmx := h.max
  have hl := h.len
  by_cases h8 : 8192 < L
  · have d1 : decide (8192 < (L : Int)) = true := decide_eq_true (by omega)
    have E : Hid (sqP zs = ([], 10)) := if_pos (by omega)
    clear h hl
    go_enter Try.func45, Try.ntmps45
    go_wp2
    go_ret2
    rw [E.out]
    exact ⟨_, rfl, Own.nil _ _, Keeps.refl _ _⟩
  have d1 : decide (8192 < (L : Int)) = false := decide_eq_false (by omega)
  have QT := Lib.hid (rqtok_any A L cap zs w h)
  have ET : Hid (sqT zs = tokF zs) := if_neg (by omega)
  have EP : Hid (sqP zs = if 4096 < (packL (tokF zs)).length then ([], 10) else (packL (tokF zs), 0)) := if_neg (by omega)
  clear h hl
  unfold TokTold at QT
  rw [ET.out] at QT
  obtain ⟨lp, hlp⟩ : ∃ x, (packL (tokF zs)).length = x := ⟨_, rfl⟩
  rw [hlp] at EP
  have LP := Lib.hid hlp
  clear hlp
  go_enter Try.func45, Try.ntmps45
  go_wp2_with fail
  refine QT.out.mono ?_
  rintro e w2 ⟨v2, rfl, o2, wf2, -, k2⟩
  obtain ⟨A2, c2, rfl, t2, -⟩ := o2.shape wf2
  have T2 := Lib.hid t2
  have K2 := Lib.hid k2
  clear o2 wf2 t2 k2
  go_wp2_with fail
  refine (rtpack_any A2 _ c2 _ _ T2.out).mono ?_
  rintro e w3 ⟨v3, rfl, o3, k3⟩
  obtain ⟨A3, c3, rfl, b3, -⟩ := o3.shape
  have b3l := b3.le
  have b3m := b3.max
  rw [LP.out] at b3l o3 ⊢
  have O3 := Lib.hid (o3.lower K2.out.size)
  have K3 := Lib.hid (K2.out.trans k3 (T := None) (fun _ h => h) (fun _ _ h => h))
  clear o3 k3 b3
  by_cases h4 : 4096 < lp
  · have d2 : decide (4096 < (lp : Int)) = true := decide_eq_true (by omega)
    go_wp2
    go_ret2
    rw [EP.out, if_pos h4]
    exact ⟨_, rfl, Own.nil _ _, K3.out⟩
  · have d2 : decide (4096 < (lp : Int)) = false := decide_eq_false (by omega)
    go_wp2
    go_ret2
    rw [EP.out, if_neg h4]
    exact ⟨_, rfl, O3.out, K3.out⟩
set_option maxRecDepth 100000 in
theorem rqsame_any (A B : Option Addr) (m c c' : Nat) (ts : List Tok) (w : World) (h : Ts w A m c ts) (h' : Ts w B m c' ts) : Calls Try.prog 37 #[.slice A m c, .slice B m c'] w (Tells (.bool true) w) := by
  have hle := h.le
  have hmx := h.max
  have hle' := h'.le
  have hmx' := h'.max
  have H := Lib.hid h
  have H' := Lib.hid h'
  clear h h'
  go_enter Try.func37, Try.ntmps37
  go_wp2
  go_loopw [5] (fun iv wr => ∃ (i k : Nat), i ≤ m ∧ iv = .int .i64 i ∧ wr = w.drewN k) (fun iv _ => m - (intOf iv).toNat)
  case atStart => exact ⟨0, 0, Nat.zero_le _, rfl, rfl⟩
  case round =>
    obtain ⟨i, k, him, rfl, rfl⟩ := hrel
    by_cases hlt : i < m
    · obtain ⟨bl, off, t, rfl, hi1, -, -, c1, c2, c3⟩ := (H.out.later ((Keeps.refl None w).drewN k)).get hlt
      obtain ⟨bl2, off2, t2, rfl, hi2, -, -, e1, e2, e3⟩ := (H'.out.later ((Keeps.refl None w).drewN k)).get hlt
      rw [hi1] at hi2
      obtain rfl : t = t2 := by simpa using hi2
      obtain ⟨n, d, b⟩ := t
      simp only [] at c1 c2 c3 e1 e2 e3
      clear hi1 hi2
      go_wp2
      obtain ⟨mS, mh⟩ : ∃ S : World → Prop, ∀ w', S w' ↔ (w'.cell? ⟨bl, off + i * 3, none⟩ = some (.int .i64 n) ∧ w'.cell? ⟨bl, off + i * 3 + 1, none⟩ = some (.int .i64 d) ∧ w'.cell? ⟨bl, off + i * 3 + 2, none⟩ = some (.int .u8 b) ∧ w'.cell? ⟨bl2, off2 + i * 3, none⟩ = some (.int .i64 n) ∧ w'.cell? ⟨bl2, off2 + i * 3 + 1, none⟩ = some (.int .i64 d) ∧ w'.cell? ⟨bl2, off2 + i * 3 + 2, none⟩ = some (.int .u8 b)) := ⟨_, fun _ => Iff.rfl⟩
      have mk0 : ∀ x : Memb mS, x.at_.cell? ⟨bl, off + i * 3, none⟩ = some (.int .i64 n) := fun x => ((mh _).1 x.is).1
      have mk1 : ∀ x : Memb mS, x.at_.cell? ⟨bl, off + i * 3 + 1, none⟩ = some (.int .i64 d) := fun x => ((mh _).1 x.is).2.1
      have mk2 : ∀ x : Memb mS, x.at_.cell? ⟨bl, off + i * 3 + 2, none⟩ = some (.int .u8 b) := fun x => ((mh _).1 x.is).2.2.1
      have mk3 : ∀ x : Memb mS, x.at_.cell? ⟨bl2, off2 + i * 3, none⟩ = some (.int .i64 n) := fun x => ((mh _).1 x.is).2.2.2.1
      have mk4 : ∀ x : Memb mS, x.at_.cell? ⟨bl2, off2 + i * 3 + 1, none⟩ = some (.int .i64 d) := fun x => ((mh _).1 x.is).2.2.2.2.1
      have mk5 : ∀ x : Memb mS, x.at_.cell? ⟨bl2, off2 + i * 3 + 2, none⟩ = some (.int .u8 b) := fun x => ((mh _).1 x.is).2.2.2.2.2
      have mn : Nonempty (Memb mS) := ⟨⟨((w.drewN k)).drew, (mh _).2 ⟨c1, c2, c3, e1, e2, e3⟩⟩⟩
      have mH := Lib.hid mh
      clear mh
      refine wp_region_mix [] (InS mS) (by kernel_rfl) (by kernel_rfl) (InS.mk ((mH.out _).2 ⟨c1, c2, c3, e1, e2, e3⟩)) ?_
      refine wpMix_seg 9 (by kernel_rfl) (by decide) ?_
      simp only [List.take_succ_cons, List.take_zero, List.drop_succ_cons, List.drop_zero]
      repeat (go_big_quiet_step (fail))
      refine wpQuiet_nil ?_
      refine wpMix_nil ?_
      clear mk0 mk1 mk2 mk3 mk4 mk5 mn mH
      go_wp2
      go_roundw
      case rel => exact ⟨i + 1, k + 1, hlt, by go_num, rfl⟩
      case measure => simp [intOf]; omega
    · obtain rfl : i = m := by omega
      go_wp2
      go_ret
      exact ⟨rfl, (Keeps.refl _ _).drewN _⟩
end Go.Proofs.Ytknjmpeopikffaa
