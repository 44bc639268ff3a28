/- The law's run: bytes in parts, with rooms. -/
import Derived.Test.YtggjdkkobhefeaaLzAl
import Derived.Test.YtggjdkkobhefeaaLzFI2
import Derived.Deep.LoopGhost
import Derived.Deep.CutRange
namespace Go.Proofs.Ytggjdkkobhefeaa
open Go.RowKit

theorem isl_get {V w : World} {A : Option Addr} {n cap : Nat} {xs : List Int} (h : IsSl V A n cap 1 (xs.map (.int .i64))) (hk : Keeps (fun k => V.heap.size ≤ k) V w) {i : Nat} (hi : i < n) :
    ∃ b off x, A = some ⟨b, off, none⟩ ∧ xs.getD i 0 = x ∧ w.cell? ⟨b, off + i, none⟩ = some (.int .i64 x) := by
  have hl : xs.length = n := by have := h.1; rw [List.length_map] at this; omega
  obtain ⟨b, off, e, hb, hc⟩ := h.2.2.2 (by omega)
  refine ⟨b, off, xs.getD i 0, e, rfl, ?_⟩
  rw [hk.cell (p := ⟨b, off + i, none⟩) hb (by show ¬ V.heap.size ≤ b; omega), hc i (by omega), map_getD 0 (by omega)]
theorem getD_bd {xs : List Int} (h : ∀ z ∈ xs, -9223372036854775808 ≤ z ∧ z ≤ 9223372036854775807) (i : Nat) : -9223372036854775808 ≤ xs.getD i 0 ∧ xs.getD i 0 ≤ 9223372036854775807 := by
  by_cases hi : i < xs.length
  · exact h _ (getD_mem 0 hi)
  · rw [List.getD, List.getElem?_eq_none (by omega)]; decide
theorem bs_sub0 {w : World} {A : Option Addr} {n cap lo hi : Nat} {zs : List Int} (h : Bs w A n cap zs) (h1 : lo ≤ hi) (h2 : hi ≤ n) (hc : cap = lo) : Bs w A (hi - lo) 0 ((zs.drop lo).take (hi - lo)) := by
  have h3 := h.le
  have e : hi - lo = 0 := by omega
  rw [e]
  exact ⟨rfl, Nat.le_refl _, by decide, fun hn => ⟨rfl, rfl⟩, (fun z hz => by cases hz), fun hn => absurd hn (by decide)⟩
theorem bs_sub {w : World} {A : Option Addr} {n cap lo hi : Nat} {zs : List Int} (h : Bs w A n cap zs) (h1 : lo ≤ hi) (h2 : hi ≤ n) (hc : ¬ cap = lo) : Bs w (Option.map (fun x => x.add lo) A) (hi - lo) (cap - lo) ((zs.drop lo).take (hi - lo)) := by
  have h3 := h.le
  have h4 := h.max
  cases A with
  | none => have := h.nil rfl; omega
  | some a =>
    by_cases he : hi - lo = 0
    · rw [he]
      exact ⟨rfl, Nat.zero_le _, by omega, (fun hn => by cases hn), (fun z hz => by cases hz), fun hn => absurd hn (by decide)⟩
    · obtain ⟨b, off, e, -, -⟩ := h.at_ (by omega)
      cases e
      have e2 : Option.map (fun x : Addr => x.add lo) (some (⟨b, off, none⟩ : Addr)) = some ⟨b, off + lo, none⟩ := by
        show some ((⟨b, off, none⟩ : Addr).add lo) = _
        rw [add_none]
      rw [e2]
      exact (h.drop (show lo ≤ n by omega)).take (by omega)
theorem run_more {z z3 : LzS} {i n en m hl oo plain : Nat} (h : z.st = 3 ∨ z.st = 4 ∨ i ≤ 100 ∨ i + ((n - en) + (plain - z.h.length)) ≤ 18292) (t : ¬ (z.st = 3 ∨ z.st = 4)) (h3 : z3.h.length = hl + oo) (hh : z.h.length = hl) (hm : 100 ≤ i → 1 ≤ m) (hn : n ≤ 10000) (h8 : plain ≤ 8192) (hlt : en < n) (hm2 : en + m ≤ n) :
    i + 1 ≤ 100 ∨ i + 1 + ((n - (en + m)) + (plain - z3.h.length)) ≤ 18292 := by
  rcases Nat.lt_or_ge i 100 with h9 | h9
  · exact .inl (by omega)
  · have := hm h9
    right
    rw [h3]
    rw [hh] at h
    omega
theorem run_full {z z3 : LzS} {i n en m hl oo plain : Nat} (h : z.st = 3 ∨ z.st = 4 ∨ i ≤ 100 ∨ i + ((n - en) + (plain - z.h.length)) ≤ 18292) (t : ¬ (z.st = 3 ∨ z.st = 4)) (h3 : z3.h.length = hl + oo) (hh : z.h.length = hl) (hm : 100 ≤ i → 100 ≤ oo) (hn : n ≤ 10000) (h8 : plain ≤ 8192) (hp : z3.h.length ≤ plain) :
    i + 1 ≤ 100 ∨ i + 1 + ((n - (en + m)) + (plain - z3.h.length)) ≤ 18292 := by
  rcases Nat.lt_or_ge i 100 with h9 | h9
  · exact .inl (by omega)
  · have := hm h9
    right
    rw [h3] at hp ⊢
    rw [hh] at h
    omega
/-- What run tells. -/
def RunDone (V w : World) (L : LzL) (plain n : Nat) (bs : List Int) (e : Ending) (w' : World) : Prop :=
  ∃ (v : Value) (taken : Nat) (zf : LzS), e = .returned (.tuple #[v, .int .i64 (taken : Int), .int .i64 zf.st]) ∧ taken ≤ n ∧ Own w' w.heap.size v zf.h ∧ Gos (lz0 plain) bs zf (bs.drop taken) zf.h ∧ LzOk zf ∧ zf.plain = plain ∧ (zf.st = 3 ∨ zf.st = 4 ∨ (zf.st = 1 ∧ taken = n)) ∧ Keeps (fun k => V.heap.size ≤ k) V w'
set_option maxRecDepth 100000 in
set_option maxHeartbeats 6400000 in
theorem lzrun_any (V w : World) (L : LzL) (A Ap Ar : Option Addr) (n cap np cp nr cr plain : Nat) (bs ps rs : List Int) (hb : Bs V A n cap bs) (hp : IsSl V Ap np cp 1 (ps.map (.int .i64))) (hr : IsSl V Ar nr cr 1 (rs.map (.int .i64)))
    (hpw : ∀ z ∈ ps, -9223372036854775808 ≤ z ∧ z ≤ 9223372036854775807) (hrw : ∀ z ∈ rs, -9223372036854775808 ≤ z ∧ z ≤ 9223372036854775807) (hn : n ≤ 10000) (hnp : np ≤ 100) (hnr : nr ≤ 100) (h8 : plain ≤ 8192)
    (hk : Keeps (fun k => V.heap.size ≤ k) V w) (hL : V.heap.size ≤ L.db) (hz : LzAt w L (lz0 plain)) :
    Calls Try.prog 32 #[.pointer (some ⟨L.zb, 0, none⟩), .slice A n cap, .slice Ap np cp, .slice Ar nr cr] w (RunDone V w L plain n bs) := by
  have HB := Lib.hid hb
  have HP := Lib.hid hp
  have HR := Lib.hid hr
  have HPW := Lib.hid hpw
  have HRW := Lib.hid hrw
  have LN := Lib.hid hb.len
  have hle := hb.le
  have hmx := hb.max
  have hlep := hp.2.1
  have hmxp := hp.2.2.1
  have hler := hr.2.1
  have hmxr := hr.2.2.1
  have HL := Lib.hid hL
  have START := Lib.hid (show LzAt w L (lz0 plain) ∧ Keeps (fun k => V.heap.size ≤ k) V w from ⟨hz, hk⟩)
  have BELW := Lib.hid hz.below
  have START2 : Hid (V.heap.size ≤ w.heap.size) := hk.size
  clear hb hp hr hpw hrw hL hz hk
  go_enter Try.func32, Try.ntmps32
  go_wp2_with fail
  refine (lzstate_any L (lz0 plain) w START.out.1).mono ?_
  rintro e w' ⟨rfl, rfl⟩
  go_wp2
  go_loopg [11, 12, 13, 14, 15] 40000 (fun g ov tv sv ev iv wr => ∃ (z : LzS) (taken en i : Nat), i + g = 40000 ∧ iv = .int .i64 (i : Int) ∧ ev = .int .i64 (en : Int) ∧ tv = .int .i64 (taken : Int) ∧ sv = .int .i64 z.st ∧ taken ≤ en ∧ en ≤ n ∧ LzAt wr L z ∧ LzOk z ∧ z.plain = plain ∧ Own wr w.heap.size ov z.h ∧ (∀ zf r o2, Gos (nz z) (bs.drop taken) zf r o2 → Gos (lz0 plain) bs zf r (z.h ++ o2)) ∧ (z.st = 3 ∨ z.st = 4 ∨ i ≤ 100 ∨ i + ((n - en) + (plain - z.h.length)) ≤ 18292) ∧ w.heap.size ≤ wr.heap.size ∧ Keeps (fun k => V.heap.size ≤ k) V wr)
  case atStart => exact ⟨lz0 plain, 0, 0, 0, rfl, rfl, rfl, rfl, rfl, Nat.le_refl _, Nat.zero_le _, START.out.1, LzOk.start h8, rfl, Own.nil _ _, fun zf r o2 h => h, .inr (.inr (.inl (Nat.zero_le _))), Nat.le_refl _, START.out.2⟩
  case round =>
    clear START
    obtain ⟨z, taken, en, i, hig, rfl, rfl, rfl, rfl, hte, hen, hz, hok, hpl, ho, hc, hm, hsz, hk⟩ := hrel
    have HZ := Lib.hid hz
    have OK := Lib.hid hok
    have PL := Lib.hid hpl
    have HO := Lib.hid ho
    have HC := Lib.hid hc
    have HM := Lib.hid hm
    have HSZ := Lib.hid hsz
    have HK := Lib.hid hk
    obtain ⟨A2, c2, rfl, b2, l2⟩ := ho.shape
    have e2 := b2.le
    have m2 := b2.max
    have hzl : z.h.length ≤ plain := by have := hok.hp; omega
    have i18 : i ≤ 18292 ∨ z.st = 3 ∨ z.st = 4 := by omega
    obtain ⟨hl, hhl⟩ : ∃ x, z.h.length = x := ⟨_, rfl⟩
    have HHL := Lib.hid hhl
    rw [hhl] at e2 hzl HO ⊢
    obtain ⟨wv, rfl⟩ : ∃ x, x = wr := ⟨_, rfl⟩
    clear hz hok hpl ho hc hm hsz hk b2 l2 hhl
    by_cases s3 : z.st = 3
    · have q3 : (z.st != 3) = false := by simp [s3]
      have q3b : (z.st == 3) = true := by simp [s3]
      have S3 := Lib.hid s3
      clear i18 s3
      by_cases hi : i < 40000
      · have d1 : decide ((i : Int) < 40000) = true := decide_eq_true (by omega)
        go_wp2
        go_ret3
        exact ⟨_, taken, z, rfl, by omega, HO.out, by have := HC.out z (bs.drop taken) [] (by rw [nz_off (.inl S3.out)]; exact Gos.stop (gS_trm (.inl S3.out) _)); rwa [List.append_nil] at this, OK.out, PL.out, .inl S3.out, HK.out⟩
      · have d1 : decide ((i : Int) < 40000) = false := decide_eq_false (by omega)
        go_wp2
        go_ret3
        exact ⟨_, taken, z, rfl, by omega, HO.out, by have := HC.out z (bs.drop taken) [] (by rw [nz_off (.inl S3.out)]; exact Gos.stop (gS_trm (.inl S3.out) _)); rwa [List.append_nil] at this, OK.out, PL.out, .inl S3.out, HK.out⟩
    by_cases s4 : z.st = 4
    · have q3 : (z.st != 3) = true := by simp [s4]
      have q3b : (z.st == 3) = false := by simp [s4]
      have q4 : (z.st != 4) = false := by simp [s4]
      have q4b : (z.st == 4) = true := by simp [s4]
      have S4 := Lib.hid s4
      clear i18 s4 s3
      by_cases hi : i < 40000
      · have d1 : decide ((i : Int) < 40000) = true := decide_eq_true (by omega)
        go_wp2
        go_ret3
        exact ⟨_, taken, z, rfl, by omega, HO.out, by have := HC.out z (bs.drop taken) [] (by rw [nz_off (.inr S4.out)]; exact Gos.stop (gS_trm (.inr S4.out) _)); rwa [List.append_nil] at this, OK.out, PL.out, .inr (.inl S4.out), HK.out⟩
      · have d1 : decide ((i : Int) < 40000) = false := decide_eq_false (by omega)
        go_wp2
        go_ret3
        exact ⟨_, taken, z, rfl, by omega, HO.out, by have := HC.out z (bs.drop taken) [] (by rw [nz_off (.inr S4.out)]; exact Gos.stop (gS_trm (.inr S4.out) _)); rwa [List.append_nil] at this, OK.out, PL.out, .inr (.inl S4.out), HK.out⟩
    have q3 : (z.st != 3) = true := by simp [s3]
    have q3b : (z.st == 3) = false := by simp [s3]
    have q4 : (z.st != 4) = true := by simp [s4]
    have q4b : (z.st == 4) = false := by simp [s4]
    have hi : i ≤ 18292 := by omega
    have d1 : decide ((i : Int) < 40000) = true := decide_eq_true (by omega)
    have TM : Hid (¬ (z.st = 3 ∨ z.st = 4)) := by show ¬ _; rintro (h | h); exact s3 h; exact s4 h
    clear i18
    go_upto_region 10 with fail
    obtain ⟨G, rfl⟩ : ∃ G, gk = G + 1 := ⟨gk - 1, by omega⟩
    have HIG := Lib.hid hig
    have HI := Lib.hid hi
    clear hig d1
    go_cut [45] from 23 to 103 (fun cv wx => ∃ c : Bool, cv = .bool c ∧ (c = true → i < np ∧ 0 ≤ ps.getD i 0) ∧ (100 ≤ i → c = false) ∧ wx = wv)
    case first =>
      by_cases g1 : i < np
      · have e1 : decide ((i : Int) < (np : Int)) = true := decide_eq_true (by omega)
        have e1n : decide (i < np) = true := decide_eq_true g1
        obtain ⟨bl, of1, x, rfl, hx, cx⟩ := isl_get HP.out HK.out g1
        by_cases g2 : 0 ≤ x
        · have e3 : decide (0 ≤ x) = true := decide_eq_true g2
          have R9 : Hid (i < np ∧ 0 ≤ ps.getD i 0) := ⟨g1, by rw [hx]; exact g2⟩
          clear hx
          go_wp2
          go_meet
          case rel => exact ⟨true, by simp, fun _ => R9.out, fun h => absurd h (by omega), rfl⟩
        · have e3 : decide (0 ≤ x) = false := decide_eq_false g2
          clear hx
          go_wp2
          go_meet
          case rel => exact ⟨false, by simp, (fun h => by cases h), fun _ => rfl, rfl⟩
      · have e1 : decide ((i : Int) < (np : Int)) = false := decide_eq_false (by omega)
        have e1n : decide (i < np) = false := decide_eq_false g1
        go_wp2
        go_meet
        case rel => exact ⟨false, by simp, (fun h => by cases h), fun _ => rfl, rfl⟩
    case rest =>
      obtain ⟨cb, rfl, hcb, hc100, rfl⟩ := hcut
      go_upto_if 45 with fail
      go_cut [16] from 23 to 103 (fun nv wx => ∃ p : Int, nv = .int .i64 p ∧ 0 ≤ p ∧ p ≤ 9223372036854775807 ∧ (100 ≤ i → p = 50) ∧ wx = wc)
      case first =>
        cases cb with
        | true =>
          obtain ⟨g1, g2⟩ := hcb rfl
          obtain ⟨bl, of1, x, rfl, hx, cx⟩ := isl_get HP.out HK.out g1
          have R9 : Hid (0 ≤ x ∧ x ≤ 9223372036854775807) := ⟨by rw [← hx]; exact g2, by rw [← hx]; exact (getD_bd HPW.out i).2⟩
          clear hx g2 hcb hc100
          go_wp2
          go_meet
          case rel => exact ⟨x, rfl, R9.out.1, R9.out.2, fun h => absurd h (by omega), rfl⟩
        | false =>
          clear hcb hc100
          go_wp2
          go_meet
          case rel => exact ⟨50, rfl, by decide, by decide, fun _ => rfl, rfl⟩
      case rest =>
        obtain ⟨p, rfl, hp0, hp1, hp100, rfl⟩ := hcut
        clear hcb hc100
        go_upto_region 12 with fail
        go_cut [60] from 23 to 103 (fun cv wx => ∃ c : Bool, cv = .bool c ∧ (c = true → i < nr ∧ 0 ≤ rs.getD i 0) ∧ (100 ≤ i → c = false) ∧ wx = wc)
        case first =>
          by_cases g1 : i < nr
          · have e1 : decide ((i : Int) < (nr : Int)) = true := decide_eq_true (by omega)
            have e1n : decide (i < nr) = true := decide_eq_true g1
            obtain ⟨bl, of1, x, rfl, hx, cx⟩ := isl_get HR.out HK.out g1
            by_cases g2 : 0 ≤ x
            · have e3 : decide (0 ≤ x) = true := decide_eq_true g2
              have R9 : Hid (i < nr ∧ 0 ≤ rs.getD i 0) := ⟨g1, by rw [hx]; exact g2⟩
              clear hx
              go_wp2
              go_meet
              case rel => exact ⟨true, by simp, fun _ => R9.out, fun h => absurd h (by omega), rfl⟩
            · have e3 : decide (0 ≤ x) = false := decide_eq_false g2
              clear hx
              go_wp2
              go_meet
              case rel => exact ⟨false, by simp, (fun h => by cases h), fun _ => rfl, rfl⟩
          · have e1 : decide ((i : Int) < (nr : Int)) = false := decide_eq_false (by omega)
            have e1n : decide (i < nr) = false := decide_eq_false g1
            go_wp2
            go_meet
            case rel => exact ⟨false, by simp, (fun h => by cases h), fun _ => rfl, rfl⟩
        case rest =>
          obtain ⟨cb, rfl, hcb, hc100, rfl⟩ := hcut
          go_upto_if 60 with fail
          go_cut [17] from 23 to 103 (fun nv wx => ∃ q : Int, nv = .int .i64 q ∧ 0 ≤ q ∧ q ≤ 9223372036854775807 ∧ (100 ≤ i → q = 100) ∧ wx = wc)
          case first =>
            cases cb with
            | true =>
              obtain ⟨g1, g2⟩ := hcb rfl
              obtain ⟨bl, of1, x, rfl, hx, cx⟩ := isl_get HR.out HK.out g1
              have R9 : Hid (0 ≤ x ∧ x ≤ 9223372036854775807) := ⟨by rw [← hx]; exact g2, by rw [← hx]; exact (getD_bd HRW.out i).2⟩
              clear hx g2 hcb hc100
              go_wp2
              go_meet
              case rel => exact ⟨x, rfl, R9.out.1, R9.out.2, fun h => absurd h (by omega), rfl⟩
            | false =>
              clear hcb hc100
              go_wp2
              go_meet
              case rel => exact ⟨100, rfl, by decide, by decide, fun _ => rfl, rfl⟩
          case rest =>
            obtain ⟨q, rfl, hq0, hq1, hq100, rfl⟩ := hcut
            have HQ := Lib.hid hq100
            clear hcb hc100 hq100
            obtain ⟨m, hm⟩ : ∃ m : Nat, (min p ((n : Int) - (en : Int))).toNat = m := ⟨_, rfl⟩
            have hm2 : en + m ≤ n := by omega
            have HM3 : Hid (100 ≤ i → en < n → 1 ≤ m) := fun h1 h2 => by have := hp100 h1; omega
            have M1 : Hid ((n : Int) - (en : Int) < p → (n : Int) - (en : Int) = (m : Int)) := fun h => by omega
            have M2 : Hid (¬ (n : Int) - (en : Int) < p → p = (m : Int)) := fun h => by omega
            clear hm hp100
            go_upto_if 70 with fail
            go_cut [16] from 23 to 103 (fun nv wx => nv = .int .i64 (m : Int) ∧ wx = wc)
            case first =>
              by_cases g1 : (n : Int) - (en : Int) < p
              · have e1 : decide ((n : Int) - (en : Int) < p) = true := decide_eq_true g1
                have E2 := Lib.hid (M1.out g1)
                clear M1 M2
                go_wp2
                go_meet
                case rel => exact ⟨by rw [E2.out], rfl⟩
              · have e1 : decide ((n : Int) - (en : Int) < p) = false := decide_eq_false g1
                have E2 := Lib.hid (M2.out g1)
                clear M1 M2
                go_wp2
                go_meet
                case rel => exact ⟨by rw [E2.out], rfl⟩
            case rest =>
              obtain ⟨rfl, rfl⟩ := hcut
              clear hp0 hp1 M1 M2 s3 s4 q3 q3b q4 q4b
              have ht2 : taken ≤ en + m := by omega
              by_cases hct : cap = taken
              · have BC := Lib.hid (bs_sub0 (HB.out.keeps HK.out (fun b off _ hb _ h => absurd h (by show ¬ V.heap.size ≤ b; omega))) ht2 hm2 hct)
                have BCV := Lib.hid (bs_sub0 HB.out ht2 hm2 hct)
                have hct2 := hct.symm
                clear hct
                subst hct2
                -- the call of Feed; A the part's address, 0 its room
                obtain ⟨nc, hnc⟩ : ∃ x, en + m - taken = x := ⟨_, rfl⟩
                obtain ⟨CH, hch⟩ : ∃ x, (bs.drop taken).take nc = x := ⟨_, rfl⟩
                rw [hnc, hch] at BC BCV
                have NBA : Hid (0 < nc → ∀ b off, A = some ⟨b, off, none⟩ → ¬ LzB L b) := fun h0 b off e hh => by
                  obtain ⟨b2, o2, e2, hlt, -⟩ := BCV.out.at_ h0
                  rw [e2] at e
                  cases e
                  have h1 := HL.out
                  have h2 := HZ.out.ne
                  have hh : b = L.db ∨ (L.T.g1 ≤ b ∧ b ≤ L.T.sb) ∨ b = L.wb ∨ b = L.zb := hh
                  omega
                have LC := Lib.hid BC.out.len
                obtain ⟨RS, RH0⟩ := lzF_res q (lzM z nc + 1) z CH [] (by rw [LC.out]; omega) OK.out BC.out.byte (by show ((0 : Nat) : Int) ≤ _; omega)
                have RH0 := RH0 z.h (by rw [List.append_nil])
                obtain ⟨o, GO1, GO2, GO3⟩ := lzF_go q (lzM z nc + 1) z CH [] (by rw [LC.out]; omega) OK.out BC.out.byte
                have FD := Lib.hid (lzfeed_any L z (A) nc (0) CH q wc HZ.out OK.out BC.out NBA.out ⟨by omega, hq1⟩)
                obtain ⟨⟨z3, ys3, out3⟩, hr⟩ : ∃ x, lzF q (lzM z nc + 1) z CH [] = x := ⟨_, rfl⟩
                rw [hr] at FD RS RH0 GO1 GO2 GO3
                dsimp only at RH0 GO1 GO2 GO3
                have RSH := Lib.hid RS
                have RH := Lib.hid RH0
                have GO1 := Lib.hid GO1
                have GO2 := Lib.hid GO2
                have GO3 := Lib.hid GO3
                have PL3 : Hid (z3.plain = plain) := RS.plain.trans PL.out
                obtain ⟨oo, hoo⟩ : ∃ x, out3.length = x := ⟨_, rfl⟩
                have OO := Lib.hid hoo
                have CHD : Hid (CH ++ bs.drop (en + m) = bs.drop taken) := by
                  show _ = _
                  rw [← hch, show bs.drop (en + m) = (bs.drop taken).drop nc by rw [List.drop_drop, ← hnc]; congr 1; omega, List.take_append_drop]
                have HNC := Lib.hid hnc
                clear RS RH0 hr hoo hch hnc BCV
                go_wp2_with fail
                rw [HNC.out]
                refine FD.out.mono ?_
                rintro e w3 ⟨k, v, hkk, hyy, rfl, z4, ok4, o4, k4⟩
                obtain ⟨A3, c3, rfl, b3, -⟩ := o4.shape
                dsimp only at hyy z4 ok4 b3 ⊢
                rw [OO.out] at b3 ⊢
                have l3 := b3.le
                have m3 := b3.max
                have B3 := Lib.hid b3
                have Z4 := Lib.hid z4
                have OK4 := Lib.hid ok4
                have K4 : Hid (Keeps (fun k => V.heap.size ≤ k) V w3) := HK.out.trans k4 (T := fun k => V.heap.size ≤ k) (fun _ h => h) (fun x hx h => by have h1 := HL.out; have h2 := Z4.out.ne; have h : x = L.db ∨ (L.T.g1 ≤ x ∧ x ≤ L.T.sb) ∨ x = L.wb ∨ x = L.zb := h; show V.heap.size ≤ x; omega)
                have O4 := Lib.hid (HO.out.keeps k4 (fun b hb h => HO.out.notBelow (BELW.out b h) hb))
                have SZ4 : Hid (w.heap.size ≤ w3.heap.size) := Nat.le_trans HSZ.out k4.size
                have GC : Hid (∀ zf r o2, Gos (nz z3) (bs.drop (taken + k)) zf r o2 → Gos (lz0 plain) bs zf r (z3.h ++ o2)) := fun zf r o2 h => by
                  have e1 : ys3 ++ bs.drop (en + m) = bs.drop (taken + k) := by
                    rw [hyy, ← List.drop_append_of_le_length (by rw [LC.out]; exact hkk), CHD.out, List.drop_drop]
                  have h1 := GO2.out (bs.drop (en + m)) zf r o2 (by rw [e1]; exact h)
                  rw [CHD.out] at h1
                  have h2 := HC.out zf r (o ++ o2) h1
                  have e2 : out3 = o := GO1.out
                  rw [RH.out, e2, List.append_assoc]
                  exact h2
                have kk2 : taken + k ≤ en + m := by have := HNC.out; omega
                have HY := Lib.hid hyy
                have HKK := Lib.hid hkk
                clear z4 ok4 b3 k4 hyy hkk
                have ol8 : hl + oo ≤ 8192 := by have h1 := OK4.out.hp; have h2 : z3.plain = plain := PL3.out; have h3 : z3.h.length = hl + oo := by rw [RH.out, List.length_append, HHL.out, OO.out]
                                                omega
                go_wp2_with (at_builtin; refine Hid.out ?_)
                refine Lib.hid ?_
                refine wpList_append_bs (B := w.heap.size) O4.out B3.out (by rw [HHL.out]; omega) SZ4.out rfl rfl rfl rfl rfl ?_
                intro v5 w5 o5 k5
                have O5 := Lib.hid o5
                have K5 : Hid (Keeps (fun k => V.heap.size ≤ k) V w5) := K4.out.trans k5 (T := fun k => V.heap.size ≤ k) (fun _ h => h) (fun x hx h => by
                  rcases Nat.lt_or_ge x w.heap.size with h9 | h9
                  · exact absurd h (O4.out.notBelow h9)
                  · exact Nat.le_trans START2.out h9)
                have Z5 := Lib.hid (Z4.out.keeps k5 (fun x hx h => O4.out.notBelow (BELW.out x hx) h))
                have SZ5 : Hid (w.heap.size ≤ w5.heap.size) := Nat.le_trans SZ4.out k5.size
                clear o5 k5 O4 K4 Z4 SZ4
                have ST : z3.st = 1 ∨ z3.st = 2 ∨ z3.st = 3 ∨ z3.st = 4 := by have := OK4.out.st1; have := OK4.out.st4; omega
                have H3L : Hid (z3.h.length = hl + oo) := by show _ = _; rw [RH.out, List.length_append, HHL.out, OO.out]
                rcases ST with s1 | s1 | s1 | s1
                · have S1 := Lib.hid s1
                  have q1 : (z3.st == 1) = true := by simp [s1]
                  have tk : Hid (taken + k = en + m) := by
                    have h1 : ys3 = [] := RSH.out.need TM.out s1
                    have h2 := HY.out
                    rw [h1] at h2
                    have h3 := congrArg List.length h2
                    rw [List.length_drop, LC.out, List.length_nil] at h3
                    have := HNC.out
                    have := HKK.out
                    show _ = _
                    omega
                  clear s1
                  by_cases hend : en + m = n
                  · have q2 : ((taken : Int) + (k : Int) == (n : Int)) = true := by have := tk.out; simp; omega
                    have q2n : (taken + k == n) = true := by have := tk.out; simp; omega
                    have HE := Lib.hid hend
                    clear hend
                    go_wp2
                    go_ret3
                    exact ⟨_, taken + k, z3, by first | rfl | simp, by have := tk.out; omega, by rw [RH.out]; exact O5.out, by
                      have h1 := GC.out z3 [] [] (by
                        have e1 : nz z3 = z3 := by unfold nz; rw [if_neg (by rw [S1.out]; decide), ← S1.out]
                        rw [e1, List.drop_eq_nil_of_le (by rw [LN.out, tk.out, HE.out]; exact Nat.le_refl _)]
                        refine Gos.stop ?_
                        unfold gS
                        rw [if_neg (by rw [S1.out]; decide), if_pos (GO3.out TM.out S1.out)])
                      rw [List.append_nil] at h1
                      rw [List.drop_eq_nil_of_le (by rw [LN.out, tk.out, HE.out]; exact Nat.le_refl _)]
                      exact h1, OK4.out, PL3.out, .inr (.inr ⟨S1.out, by rw [tk.out, HE.out]⟩), K5.out⟩
                  · have q2 : ((taken : Int) + (k : Int) == (n : Int)) = false := by have := tk.out; simp; omega
                    have q2n : (taken + k == n) = false := by have := tk.out; simp; omega
                    go_wp2
                    go_roundg G
                    case measure => omega
                    case rel => exact ⟨z3, taken + k, en + m, i + 1, by have := HIG.out; omega, by go_num, by go_num, by go_num, rfl, by omega, hm2, Z5.out, OK4.out, PL3.out, by rw [RH.out]; exact O5.out, GC.out, .inr (.inr (run_more HM.out TM.out H3L.out HHL.out (fun h9 => HM3.out h9 (by omega)) hn h8 (by omega) hm2)), SZ5.out, K5.out⟩
                · have RF := Lib.hid (RSH.out.full TM.out s1)
                  have q1 : (z3.st == 1) = false := by simp [s1]
                  clear s1
                  go_wp2
                  go_roundg G
                  case measure => omega
                  case rel => exact ⟨z3, taken + k, en + m, i + 1, by have := HIG.out; omega, by go_num, by go_num, by go_num, rfl, by omega, hm2, Z5.out, OK4.out, PL3.out, by rw [RH.out]; exact O5.out, GC.out, .inr (.inr (run_full HM.out TM.out H3L.out HHL.out (fun h9 => by have h6 : max q 0 ≤ (out3.length : Int) := RF.out; rw [OO.out, HQ.out h9] at h6; omega) hn h8 (by have h1 := OK4.out.hp; rw [PL3.out] at h1; exact h1))), SZ5.out, K5.out⟩
                · have S1 := Lib.hid s1
                  have q1 : (z3.st == 1) = false := by simp [s1]
                  clear s1
                  go_wp2
                  go_roundg G
                  case measure => omega
                  case rel => exact ⟨z3, taken + k, en + m, i + 1, by have := HIG.out; omega, by go_num, by go_num, by go_num, rfl, by omega, hm2, Z5.out, OK4.out, PL3.out, by rw [RH.out]; exact O5.out, GC.out, .inl S1.out, SZ5.out, K5.out⟩
                · have S1 := Lib.hid s1
                  have q1 : (z3.st == 1) = false := by simp [s1]
                  clear s1
                  go_wp2
                  go_roundg G
                  case measure => omega
                  case rel => exact ⟨z3, taken + k, en + m, i + 1, by have := HIG.out; omega, by go_num, by go_num, by go_num, rfl, by omega, hm2, Z5.out, OK4.out, PL3.out, by rw [RH.out]; exact O5.out, GC.out, .inr (.inl S1.out), SZ5.out, K5.out⟩
              · have BC := Lib.hid (bs_sub (HB.out.keeps HK.out (fun b off _ hb _ h => absurd h (by show ¬ V.heap.size ≤ b; omega))) ht2 hm2 hct)
                have BCV := Lib.hid (bs_sub HB.out ht2 hm2 hct)
                -- the call of Feed; (Option.map (fun x => x.add taken) A) the part's address, (cap - taken) its room
                obtain ⟨nc, hnc⟩ : ∃ x, en + m - taken = x := ⟨_, rfl⟩
                obtain ⟨CH, hch⟩ : ∃ x, (bs.drop taken).take nc = x := ⟨_, rfl⟩
                rw [hnc, hch] at BC BCV
                have NBA : Hid (0 < nc → ∀ b off, (Option.map (fun x => x.add taken) A) = some ⟨b, off, none⟩ → ¬ LzB L b) := fun h0 b off e hh => by
                  obtain ⟨b2, o2, e2, hlt, -⟩ := BCV.out.at_ h0
                  rw [e2] at e
                  cases e
                  have h1 := HL.out
                  have h2 := HZ.out.ne
                  have hh : b = L.db ∨ (L.T.g1 ≤ b ∧ b ≤ L.T.sb) ∨ b = L.wb ∨ b = L.zb := hh
                  omega
                have LC := Lib.hid BC.out.len
                obtain ⟨RS, RH0⟩ := lzF_res q (lzM z nc + 1) z CH [] (by rw [LC.out]; omega) OK.out BC.out.byte (by show ((0 : Nat) : Int) ≤ _; omega)
                have RH0 := RH0 z.h (by rw [List.append_nil])
                obtain ⟨o, GO1, GO2, GO3⟩ := lzF_go q (lzM z nc + 1) z CH [] (by rw [LC.out]; omega) OK.out BC.out.byte
                have FD := Lib.hid (lzfeed_any L z ((Option.map (fun x => x.add taken) A)) nc ((cap - taken)) CH q wc HZ.out OK.out BC.out NBA.out ⟨by omega, hq1⟩)
                obtain ⟨⟨z3, ys3, out3⟩, hr⟩ : ∃ x, lzF q (lzM z nc + 1) z CH [] = x := ⟨_, rfl⟩
                rw [hr] at FD RS RH0 GO1 GO2 GO3
                dsimp only at RH0 GO1 GO2 GO3
                have RSH := Lib.hid RS
                have RH := Lib.hid RH0
                have GO1 := Lib.hid GO1
                have GO2 := Lib.hid GO2
                have GO3 := Lib.hid GO3
                have PL3 : Hid (z3.plain = plain) := RS.plain.trans PL.out
                obtain ⟨oo, hoo⟩ : ∃ x, out3.length = x := ⟨_, rfl⟩
                have OO := Lib.hid hoo
                have CHD : Hid (CH ++ bs.drop (en + m) = bs.drop taken) := by
                  show _ = _
                  rw [← hch, show bs.drop (en + m) = (bs.drop taken).drop nc by rw [List.drop_drop, ← hnc]; congr 1; omega, List.take_append_drop]
                have HNC := Lib.hid hnc
                clear RS RH0 hr hoo hch hnc BCV
                go_wp2_with fail
                rw [HNC.out]
                refine FD.out.mono ?_
                rintro e w3 ⟨k, v, hkk, hyy, rfl, z4, ok4, o4, k4⟩
                obtain ⟨A3, c3, rfl, b3, -⟩ := o4.shape
                dsimp only at hyy z4 ok4 b3 ⊢
                rw [OO.out] at b3 ⊢
                have l3 := b3.le
                have m3 := b3.max
                have B3 := Lib.hid b3
                have Z4 := Lib.hid z4
                have OK4 := Lib.hid ok4
                have K4 : Hid (Keeps (fun k => V.heap.size ≤ k) V w3) := HK.out.trans k4 (T := fun k => V.heap.size ≤ k) (fun _ h => h) (fun x hx h => by have h1 := HL.out; have h2 := Z4.out.ne; have h : x = L.db ∨ (L.T.g1 ≤ x ∧ x ≤ L.T.sb) ∨ x = L.wb ∨ x = L.zb := h; show V.heap.size ≤ x; omega)
                have O4 := Lib.hid (HO.out.keeps k4 (fun b hb h => HO.out.notBelow (BELW.out b h) hb))
                have SZ4 : Hid (w.heap.size ≤ w3.heap.size) := Nat.le_trans HSZ.out k4.size
                have GC : Hid (∀ zf r o2, Gos (nz z3) (bs.drop (taken + k)) zf r o2 → Gos (lz0 plain) bs zf r (z3.h ++ o2)) := fun zf r o2 h => by
                  have e1 : ys3 ++ bs.drop (en + m) = bs.drop (taken + k) := by
                    rw [hyy, ← List.drop_append_of_le_length (by rw [LC.out]; exact hkk), CHD.out, List.drop_drop]
                  have h1 := GO2.out (bs.drop (en + m)) zf r o2 (by rw [e1]; exact h)
                  rw [CHD.out] at h1
                  have h2 := HC.out zf r (o ++ o2) h1
                  have e2 : out3 = o := GO1.out
                  rw [RH.out, e2, List.append_assoc]
                  exact h2
                have kk2 : taken + k ≤ en + m := by have := HNC.out; omega
                have HY := Lib.hid hyy
                have HKK := Lib.hid hkk
                clear z4 ok4 b3 k4 hyy hkk
                have ol8 : hl + oo ≤ 8192 := by have h1 := OK4.out.hp; have h2 : z3.plain = plain := PL3.out; have h3 : z3.h.length = hl + oo := by rw [RH.out, List.length_append, HHL.out, OO.out]
                                                omega
                go_wp2_with (at_builtin; refine Hid.out ?_)
                refine Lib.hid ?_
                refine wpList_append_bs (B := w.heap.size) O4.out B3.out (by rw [HHL.out]; omega) SZ4.out rfl rfl rfl rfl rfl ?_
                intro v5 w5 o5 k5
                have O5 := Lib.hid o5
                have K5 : Hid (Keeps (fun k => V.heap.size ≤ k) V w5) := K4.out.trans k5 (T := fun k => V.heap.size ≤ k) (fun _ h => h) (fun x hx h => by
                  rcases Nat.lt_or_ge x w.heap.size with h9 | h9
                  · exact absurd h (O4.out.notBelow h9)
                  · exact Nat.le_trans START2.out h9)
                have Z5 := Lib.hid (Z4.out.keeps k5 (fun x hx h => O4.out.notBelow (BELW.out x hx) h))
                have SZ5 : Hid (w.heap.size ≤ w5.heap.size) := Nat.le_trans SZ4.out k5.size
                clear o5 k5 O4 K4 Z4 SZ4
                have ST : z3.st = 1 ∨ z3.st = 2 ∨ z3.st = 3 ∨ z3.st = 4 := by have := OK4.out.st1; have := OK4.out.st4; omega
                have H3L : Hid (z3.h.length = hl + oo) := by show _ = _; rw [RH.out, List.length_append, HHL.out, OO.out]
                rcases ST with s1 | s1 | s1 | s1
                · have S1 := Lib.hid s1
                  have q1 : (z3.st == 1) = true := by simp [s1]
                  have tk : Hid (taken + k = en + m) := by
                    have h1 : ys3 = [] := RSH.out.need TM.out s1
                    have h2 := HY.out
                    rw [h1] at h2
                    have h3 := congrArg List.length h2
                    rw [List.length_drop, LC.out, List.length_nil] at h3
                    have := HNC.out
                    have := HKK.out
                    show _ = _
                    omega
                  clear s1
                  by_cases hend : en + m = n
                  · have q2 : ((taken : Int) + (k : Int) == (n : Int)) = true := by have := tk.out; simp; omega
                    have q2n : (taken + k == n) = true := by have := tk.out; simp; omega
                    have HE := Lib.hid hend
                    clear hend
                    go_wp2
                    go_ret3
                    exact ⟨_, taken + k, z3, by first | rfl | simp, by have := tk.out; omega, by rw [RH.out]; exact O5.out, by
                      have h1 := GC.out z3 [] [] (by
                        have e1 : nz z3 = z3 := by unfold nz; rw [if_neg (by rw [S1.out]; decide), ← S1.out]
                        rw [e1, List.drop_eq_nil_of_le (by rw [LN.out, tk.out, HE.out]; exact Nat.le_refl _)]
                        refine Gos.stop ?_
                        unfold gS
                        rw [if_neg (by rw [S1.out]; decide), if_pos (GO3.out TM.out S1.out)])
                      rw [List.append_nil] at h1
                      rw [List.drop_eq_nil_of_le (by rw [LN.out, tk.out, HE.out]; exact Nat.le_refl _)]
                      exact h1, OK4.out, PL3.out, .inr (.inr ⟨S1.out, by rw [tk.out, HE.out]⟩), K5.out⟩
                  · have q2 : ((taken : Int) + (k : Int) == (n : Int)) = false := by have := tk.out; simp; omega
                    have q2n : (taken + k == n) = false := by have := tk.out; simp; omega
                    go_wp2
                    go_roundg G
                    case measure => omega
                    case rel => exact ⟨z3, taken + k, en + m, i + 1, by have := HIG.out; omega, by go_num, by go_num, by go_num, rfl, by omega, hm2, Z5.out, OK4.out, PL3.out, by rw [RH.out]; exact O5.out, GC.out, .inr (.inr (run_more HM.out TM.out H3L.out HHL.out (fun h9 => HM3.out h9 (by omega)) hn h8 (by omega) hm2)), SZ5.out, K5.out⟩
                · have RF := Lib.hid (RSH.out.full TM.out s1)
                  have q1 : (z3.st == 1) = false := by simp [s1]
                  clear s1
                  go_wp2
                  go_roundg G
                  case measure => omega
                  case rel => exact ⟨z3, taken + k, en + m, i + 1, by have := HIG.out; omega, by go_num, by go_num, by go_num, rfl, by omega, hm2, Z5.out, OK4.out, PL3.out, by rw [RH.out]; exact O5.out, GC.out, .inr (.inr (run_full HM.out TM.out H3L.out HHL.out (fun h9 => by have h6 : max q 0 ≤ (out3.length : Int) := RF.out; rw [OO.out, HQ.out h9] at h6; omega) hn h8 (by have h1 := OK4.out.hp; rw [PL3.out] at h1; exact h1))), SZ5.out, K5.out⟩
                · have S1 := Lib.hid s1
                  have q1 : (z3.st == 1) = false := by simp [s1]
                  clear s1
                  go_wp2
                  go_roundg G
                  case measure => omega
                  case rel => exact ⟨z3, taken + k, en + m, i + 1, by have := HIG.out; omega, by go_num, by go_num, by go_num, rfl, by omega, hm2, Z5.out, OK4.out, PL3.out, by rw [RH.out]; exact O5.out, GC.out, .inl S1.out, SZ5.out, K5.out⟩
                · have S1 := Lib.hid s1
                  have q1 : (z3.st == 1) = false := by simp [s1]
                  clear s1
                  go_wp2
                  go_roundg G
                  case measure => omega
                  case rel => exact ⟨z3, taken + k, en + m, i + 1, by have := HIG.out; omega, by go_num, by go_num, by go_num, rfl, by omega, hm2, Z5.out, OK4.out, PL3.out, by rw [RH.out]; exact O5.out, GC.out, .inr (.inl S1.out), SZ5.out, K5.out⟩
end Go.Proofs.Ytggjdkkobhefeaa
