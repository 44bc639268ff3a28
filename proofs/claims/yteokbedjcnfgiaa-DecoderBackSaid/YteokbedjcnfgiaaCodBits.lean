/- A row of bits, packed: the function bits of the coder's laws; the coder's example. -/
import Derived.Test.YteokbedjcnfgiaaCod
import Derived.Test.YteokbedjcnfgiaaFrame
namespace Go.Proofs.Yteokbedjcnfgiaa
open Go.RowKit

structure CSt where
  l : List Int
  w : Int
def bI (b : Bool) : Int := if b then 1 else 0
def cStep (s : CSt) (p bit : Int) : CSt := if p = 0 then ⟨cHalfL s.l s.w bit, cHalfW s.w⟩ else ⟨cBitL s.l s.w p bit, cBitW s.w p bit⟩
/-- The coder behind k bits. -/
def cS (f : Nat → Bool) (q : Nat → Int) : Nat → CSt
  | 0 => ⟨[0, 0, 0, 0], 4294967295⟩
  | k + 1 => cStep (cS f q k) (q k) (bI (f k))
theorem cStrL_le (l : List Int) (w : Int) : l.length ≤ (cStrL l w).length ∧ (cStrL l w).length ≤ l.length + 1 := by
  unfold cStrL; split <;> simp
theorem cStep_len (s : CSt) (p bit : Int) : s.l.length ≤ (cStep s p bit).l.length ∧ (cStep s p bit).l.length ≤ s.l.length + 1 := by
  unfold cStep cHalfL cBitL
  have h1 := cStrL_le s.l (s.w / 2)
  have h2 := cStrL_le (addL s.l (s.w / 2)) (s.w / 2)
  have h3 := cStrL_le s.l (cBd s.w p)
  have h4 := cStrL_le (addL s.l (cBd s.w p)) (s.w - cBd s.w p)
  rw [addL_length] at h2 h4
  split <;> simp only <;> split <;> assumption
theorem cS_len (f : Nat → Bool) (q : Nat → Int) (k : Nat) : 4 ≤ (cS f q k).l.length ∧ (cS f q k).l.length ≤ 4 + k := by
  induction k with
  | zero => exact ⟨Nat.le_refl _, Nat.le_refl _⟩
  | succ k ih =>
    have := cStep_len (cS f q k) (q k) (bI (f k))
    show 4 ≤ (cStep (cS f q k) (q k) (bI (f k))).l.length ∧ (cStep (cS f q k) (q k) (bI (f k))).l.length ≤ 4 + (k + 1)
    omega
theorem cStep_w (s : CSt) (p bit : Int) (h0 : 16777216 ≤ s.w) (h1 : s.w < 4294967296) : 16777216 ≤ (cStep s p bit).w ∧ (cStep s p bit).w < 4294967296 := by
  have a1 := hold_lo p
  have a2 := hold_hi p
  have h3 : 8192 ≤ s.w / 2048 := by omega
  have h4 : s.w / 2048 * hold p ≤ s.w / 2048 * 2017 := Int.mul_le_mul_of_nonneg_left a2 (by omega)
  have h5 : s.w / 2048 * 31 ≤ s.w / 2048 * hold p := Int.mul_le_mul_of_nonneg_left a1 (by omega)
  have g1 := strW_wide (s.w / 2) (by omega)
  have g2 := strW_bd (s.w / 2) (by omega) (by omega)
  have g3 := strW_wide (cBd s.w p) (by unfold cBd; omega)
  have g4 := strW_bd (cBd s.w p) (by unfold cBd; omega) (by unfold cBd; omega)
  have g5 := strW_wide (s.w - cBd s.w p) (by unfold cBd; omega)
  have g6 := strW_bd (s.w - cBd s.w p) (by unfold cBd; omega) (by unfold cBd; omega)
  unfold cStep cHalfW cBitW
  split
  · exact ⟨g1, g2.2.1⟩
  · simp only
    split
    · exact ⟨g3, g4.2.1⟩
    · exact ⟨g5, g6.2.1⟩
theorem cS_w (f : Nat → Bool) (q : Nat → Int) (k : Nat) : 16777216 ≤ (cS f q k).w ∧ (cS f q k).w < 4294967296 := by
  induction k with
  | zero => exact ⟨show (16777216 : Int) ≤ 4294967295 by decide, show (4294967295 : Int) < 4294967296 by decide⟩
  | succ k ih => exact cStep_w _ _ _ ih.1 ih.2


set_option maxRecDepth 100000 in
set_option maxHeartbeats 1600000 in
theorem cbits_any (A A2 : Option Addr) (n cap n2 cap2 : Nat) (f : Nat → Bool) (q : Nat → Int) (bs : List Bool) (ps : List Int) (w : World) (h1 : IsSl w A n cap 1 (bs.map .bool)) (h2 : IsSl w A2 n2 cap2 1 (ps.map (.int .i64))) (hbl : bs.length = n) (hpl : ps.length = n2) (hn : n ≤ n2) (hn2 : n ≤ 100000000)
    (hf : ∀ i, i < n → bs.getD i false = f i) (hq : ∀ i, i < n → ps.getD i 0 = q i) :
    Calls Try.prog 38 #[.slice A n cap, .slice A2 n2 cap2] w (Cloned w (cS f q n).l) := by
  obtain ⟨_, hcap, hmax, hcell⟩ := h1
  obtain ⟨_, hcap2, hmax2, hcell2⟩ := h2
  have HC1 := Lib.hid hcell
  have HC2 := Lib.hid hcell2
  have HF := Lib.hid hf
  have HQ := Lib.hid hq
  have HBL := Lib.hid hbl
  have HPL := Lib.hid hpl
  have SW := Lib.hid (cS_w f q)
  have SL := Lib.hid (cS_len f q)
  clear hcell hcell2 hf hq hbl hpl
  go_enter Try.func38, Try.ntmps38
  go_wp2_with (go_at_call 39; refine (cnew_any _).mono ?_; rintro e w1 ⟨rfl, hc1, hk1⟩)
  obtain ⟨b, hb⟩ : ∃ b, b = w.heap.size + 1 := ⟨_, rfl⟩
  rw [← hb] at hc1 ⊢
  have hb2 : w.heap.size ≤ b := by omega
  have KEY : Hid (CAt w1 b w.heap.size 93 (cS f q 0).l (cS f q 0).w ∧ Keeps (fun i => w.heap.size ≤ i) w w1) := ⟨hc1, hk1.ofNone⟩
  clear hc1 hk1 hb
  go_loopw [6] (fun i wr => ∃ (k g : Nat), k ≤ n ∧ i = .int .i64 k ∧ CAt wr b g 93 (cS f q k).l (cS f q k).w ∧ w.heap.size ≤ g ∧ Keeps (fun i => w.heap.size ≤ i) w wr) (fun i _ => n - (intOf i).toNat)
  case atStart => exact ⟨0, _, Nat.zero_le _, rfl, KEY.out.1, Nat.le_refl _, KEY.out.2⟩
  case round =>
    obtain ⟨k, g, hkn, rfl, hC, hg, hk⟩ := hrel
    clear KEY
    by_cases hlt : k < n
    · obtain ⟨bl, off, rfl, hb1, hc1⟩ := HC1.out (by omega)
      obtain ⟨bl2, off2, rfl, hbb2, hc2⟩ := HC2.out (by omega)
      have x1 : wr.cell? ⟨bl, off + k, none⟩ = some (.bool (f k)) := by
        rw [hk.cell (p := ⟨bl, off + k, none⟩) hb1 (by simp; exact hb1), hc1 k (by omega), map_getD false (by rw [HBL.out]; exact hlt), HF.out k hlt]
      have x2 : wr.cell? ⟨bl2, off2 + k, none⟩ = some (.int .i64 (q k)) := by
        rw [hk.cell (p := ⟨bl2, off2 + k, none⟩) hbb2 (by simp; exact hbb2), hc2 k (by omega), map_getD 0 (by rw [HPL.out]; omega), HQ.out k hlt]
      have s1 := SW.out k
      have s2 := SL.out k
      obtain ⟨s10, s11⟩ := s1
      have s12 : 0 ≤ (cS f q k).w := by omega
      have s13 : (cS f q k).l.length < 1099511627776 := by omega
      clear hc1 hc2 hbb2 hb1 s2 s10
      by_cases hq0 : q k = 0
      · have HQ0 : q k = 0 := hq0
        cases hfk : f k with
        | false =>
          rw [hfk] at x1
          rw [hq0] at x2
          have CL := Lib.hid (chalf_any b g _ _ 0 wr hC s12 s11 s13)
          have ST : Hid (cS f q (k + 1) = ⟨cHalfL (cS f q k).l (cS f q k).w 0, cHalfW (cS f q k).w⟩) := by
            show cStep (cS f q k) (q k) (bI (f k)) = _
            rw [hfk, cStep, if_pos HQ0]; rfl
          clear HQ0 hq0 hfk
          generalize (cS f q k).l = l0 at *
          generalize (cS f q k).w = w0 at *
          go_wp2_with fail
          refine CL.out.mono ?_
          rintro e w2 ⟨rfl, hm⟩
          obtain ⟨g', hg', hc', hk'⟩ := hm
          have HC' := Lib.hid hc'
          have HK' := Lib.hid (hk.trans hk' (T := fun i => w.heap.size ≤ i) (fun _ h => h) (fun _ _ h => by rcases h with h | h <;> (subst h; assumption)))
          have hg2 : w.heap.size ≤ g' := by have := hk.size; rcases hg' with h | h <;> omega
          clear hc' hk' hk hC CL x1 x2
          go_wp2
          go_roundw
          case rel => exact ⟨k + 1, g', by omega, by go_num, by rw [ST.out]; exact HC'.out, hg2, HK'.out⟩
          case measure => simp [intOf]; omega
        | true =>
          rw [hfk] at x1
          rw [hq0] at x2
          have CL := Lib.hid (chalf_any b g _ _ 1 wr hC s12 s11 s13)
          have ST : Hid (cS f q (k + 1) = ⟨cHalfL (cS f q k).l (cS f q k).w 1, cHalfW (cS f q k).w⟩) := by
            show cStep (cS f q k) (q k) (bI (f k)) = _
            rw [hfk, cStep, if_pos HQ0]; rfl
          clear HQ0 hq0 hfk
          generalize (cS f q k).l = l0 at *
          generalize (cS f q k).w = w0 at *
          go_wp2_with fail
          refine CL.out.mono ?_
          rintro e w2 ⟨rfl, hm⟩
          obtain ⟨g', hg', hc', hk'⟩ := hm
          have HC' := Lib.hid hc'
          have HK' := Lib.hid (hk.trans hk' (T := fun i => w.heap.size ≤ i) (fun _ h => h) (fun _ _ h => by rcases h with h | h <;> (subst h; assumption)))
          have hg2 : w.heap.size ≤ g' := by have := hk.size; rcases hg' with h | h <;> omega
          clear hc' hk' hk hC CL x1 x2
          go_wp2
          go_roundw
          case rel => exact ⟨k + 1, g', by omega, by go_num, by rw [ST.out]; exact HC'.out, hg2, HK'.out⟩
          case measure => simp [intOf]; omega
      · have q1 : (q k == 0) = false := by simpa using hq0
        cases hfk : f k with
        | false =>
          rw [hfk] at x1
          have CL := Lib.hid (cbit_any b g _ _ (q k) 0 wr hC s12 s11 s13)
          have ST : Hid (cS f q (k + 1) = ⟨cBitL (cS f q k).l (cS f q k).w (q k) 0, cBitW (cS f q k).w (q k) 0⟩) := by
            show cStep (cS f q k) (q k) (bI (f k)) = _
            rw [hfk, cStep, if_neg hq0]; rfl
          clear hq0 hfk
          generalize (cS f q k).l = l0 at *
          generalize (cS f q k).w = w0 at *
          go_wp2_with fail
          refine CL.out.mono ?_
          rintro e w2 ⟨rfl, hm⟩
          obtain ⟨g', hg', hc', hk'⟩ := hm
          have HC' := Lib.hid hc'
          have HK' := Lib.hid (hk.trans hk' (T := fun i => w.heap.size ≤ i) (fun _ h => h) (fun _ _ h => by rcases h with h | h <;> (subst h; assumption)))
          have hg2 : w.heap.size ≤ g' := by have := hk.size; rcases hg' with h | h <;> omega
          clear hc' hk' hk hC CL x1 x2
          go_wp2
          go_roundw
          case rel => exact ⟨k + 1, g', by omega, by go_num, by rw [ST.out]; exact HC'.out, hg2, HK'.out⟩
          case measure => simp [intOf]; omega
        | true =>
          rw [hfk] at x1
          have CL := Lib.hid (cbit_any b g _ _ (q k) 1 wr hC s12 s11 s13)
          have ST : Hid (cS f q (k + 1) = ⟨cBitL (cS f q k).l (cS f q k).w (q k) 1, cBitW (cS f q k).w (q k) 1⟩) := by
            show cStep (cS f q k) (q k) (bI (f k)) = _
            rw [hfk, cStep, if_neg hq0]; rfl
          clear hq0 hfk
          generalize (cS f q k).l = l0 at *
          generalize (cS f q k).w = w0 at *
          go_wp2_with fail
          refine CL.out.mono ?_
          rintro e w2 ⟨rfl, hm⟩
          obtain ⟨g', hg', hc', hk'⟩ := hm
          have HC' := Lib.hid hc'
          have HK' := Lib.hid (hk.trans hk' (T := fun i => w.heap.size ≤ i) (fun _ h => h) (fun _ _ h => by rcases h with h | h <;> (subst h; assumption)))
          have hg2 : w.heap.size ≤ g' := by have := hk.size; rcases hg' with h | h <;> omega
          clear hc' hk' hk hC CL x1 x2
          go_wp2
          go_roundw
          case rel => exact ⟨k + 1, g', by omega, by go_num, by rw [ST.out]; exact HC'.out, hg2, HK'.out⟩
          case measure => simp [intOf]; omega
    · obtain rfl : k = n := by omega
      have DN := Lib.hid (cdone_any b g _ _ wr hC (by have := SL.out k; omega))
      have HK := Lib.hid hk
      clear hC hk
      go_wp2_with fail
      refine DN.out.mono ?_
      rintro e w2 ⟨v, rfl, ho, hk2⟩
      have HO := Lib.hid ho
      have HK2 := Lib.hid hk2
      clear ho hk2
      go_wp2
      go_ret
      exact ⟨v, rfl, HO.out.lower HK.out.size, (HK.out.trans HK2.out (fun _ h => h) (fun _ _ h => h.elim)).mono (fun i hi h => by omega)⟩
end Go.Proofs.Yteokbedjcnfgiaa
