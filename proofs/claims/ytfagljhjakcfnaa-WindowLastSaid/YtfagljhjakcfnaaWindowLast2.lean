/- The law WindowLast: its walk. -/
import Derived.Test.YtfagljhjakcfnaaWindowLast
import Derived.Test.YtfagljhjakcfnaaWindowBack
namespace Go.Proofs.Ytfagljhjakcfnaa
open Go.RowKit

theorem wlast_any (b : Nat) (h : List Int) (n : Int) (w : World) (hw : Win w b h) (hl : h.length < 1099511627776) (hbyte : ∀ z ∈ h, 0 ≤ z ∧ z ≤ 255) :
    Calls Try.prog 35 #[.pointer (some ⟨b, 0, none⟩), .int .i64 n] w (Cloned w (lastN h n)) := by
  by_cases hc : n ≤ min (h.length : Int) 4096
  · exact last_le b h n w hw hl hbyte hc
  · exact last_gt b h n w hw hl hbyte (by omega)

theorem lastN_length (h : List Int) (n : Int) : (lastN h n).length = (min n (min (h.length : Int) 4096)).toNat := by simp [lastN, lastTo]
theorem lastN_get (h : List Int) (n : Int) (i : Nat) (hi : i < (lastN h n).length) : (lastN h n).getD i 0 = h.getD (h.length - ((lastN h n).length - i)) 0 := by
  rw [lastN_length] at hi
  rw [lastN_length]
  have e : h.length - (min n (min (h.length : Int) 4096)).toNat + i = h.length - ((min n (min (h.length : Int) 4096)).toNat - i) := by omega
  rw [← e]
  unfold lastN lastTo
  simp [List.getD, hi]
theorem lastN_drop (h : List Int) (n : Int) (m : Nat) (hm : m ≤ h.length) (e : (min n (min (h.length : Int) 4096)).toNat = m) : lastN h n = h.drop (h.length - m) := by
  unfold lastN lastTo
  rw [e]
  apply List.ext_getElem?
  intro i
  by_cases hi : i < m
  · have : h.length - m + i < h.length := by omega
    simp [hi, List.getD, this]
  · rw [List.getElem?_eq_none (by simp; omega), List.getElem?_eq_none (by simp; omega)]

theorem take_snoc (l : List Int) (k : Nat) (hk : k < l.length) : l.take k ++ [l[k]] = l.take (k + 1) := by
  rw [List.take_add_one, List.getElem?_eq_getElem hk]; rfl
theorem bs_under {W w : World} {A : Option Addr} {n cap : Nat} {zs : List Int} (h : Bs W A n cap zs) (hb : Below W.heap.size W w) : Bs w A n cap zs :=
  h.later ⟨hb.os, hb.tape, hb.output, hb.size, fun k hk _ => hb.block k hk⟩
/-- A slice's end. -/
theorem Bs.drop {w : World} {b off n cap k : Nat} {zs : List Int} (h : Bs w (some ⟨b, off, none⟩) n cap zs) (hk : k ≤ n) : Bs w (some ⟨b, off + k, none⟩) (n - k) (cap - k) (zs.drop k) := by
  have h1 := h.le
  have h2 := h.max
  refine ⟨by rw [List.length_drop, h.len], by omega, by omega, (fun e => by cases e), fun z hz => h.byte z (List.mem_of_mem_drop hz), fun hn => ?_⟩
  obtain ⟨b', off', e, hb, hc⟩ := h.at_ (by omega)
  cases e
  refine ⟨b, off + k, rfl, hb, fun i hi => ?_⟩
  rw [Nat.add_assoc, hc (k + i) (by omega)]
  simp [List.getD, List.getElem?_drop]

theorem Bs.dropIf {w : World} {b off n cap k : Nat} {zs : List Int} (h : Bs w (some ⟨b, off, none⟩) n cap zs) (hk : k ≤ n) : Bs w (if cap = k then some ⟨b, off, none⟩ else some ⟨b, off + k, none⟩) (n - k) (cap - k) (zs.drop k) := by
  have hd := h.drop hk
  split
  · rename_i e
    have h1 := h.le
    exact ⟨hd.len, hd.le, hd.max, (fun e => by cases e), hd.byte, fun hn => by omega⟩
  · exact hd
theorem Bs.empty (w : World) (a : Addr) (c : Nat) (hc : c ≤ 9223372036854775807) : Bs w (some a) 0 c [] := ⟨rfl, by omega, hc, (fun e => by cases e), (by simp), fun hn => by omega⟩

theorem below_drew1 {B : Nat} {W a : World} (h : Below B W a) : Below B W a.drew := ⟨h.os, h.tape, h.output, h.size, h.block⟩


set_option maxRecDepth 100000 in
set_option maxHeartbeats 800000 in
theorem wl_early1 (A : Option Addr) (n1 c1 : Nat) (n : Int) (w : World) (h : decide (300 < (n1 : Int)) = true) : Calls Try.prog 8 #[.slice A n1 c1, .int .i64 n] w fun e w' => e = .returned (.bool true) ∧ Below w.heap.size w w' := by
  go_enter Try.func8, Try.ntmps8
  go_wp2_with (go_at_call 19; refine (alive18_any _).mono ?_; rintro e w1 ⟨rfl, hk⟩)
  go_ret
  exact ⟨rfl, hk⟩
set_option maxRecDepth 100000 in
set_option maxHeartbeats 800000 in
theorem wl_early2 (A : Option Addr) (n1 c1 : Nat) (n : Int) (w : World) (h : decide (300 < (n1 : Int)) = false) (h2 : decide (n < 0) = true) : Calls Try.prog 8 #[.slice A n1 c1, .int .i64 n] w fun e w' => e = .returned (.bool true) ∧ Below w.heap.size w w' := by
  go_enter Try.func8, Try.ntmps8
  go_wp2_with (go_at_call 19; refine (alive18_any _).mono ?_; rintro e w1 ⟨rfl, hk⟩)
  go_ret
  exact ⟨rfl, hk⟩
set_option maxRecDepth 100000 in
set_option maxHeartbeats 800000 in
theorem wl_early3 (A : Option Addr) (n1 c1 : Nat) (n : Int) (w : World) (h : decide (300 < (n1 : Int)) = false) (h2 : decide (n < 0) = false) (h3 : decide (300 < n) = true) : Calls Try.prog 8 #[.slice A n1 c1, .int .i64 n] w fun e w' => e = .returned (.bool true) ∧ Below w.heap.size w w' := by
  go_enter Try.func8, Try.ntmps8
  go_wp2_with (go_at_call 19; refine (alive18_any _).mono ?_; rintro e w1 ⟨rfl, hk⟩)
  go_ret
  exact ⟨rfl, hk⟩

set_option maxRecDepth 100000 in
set_option maxHeartbeats 1600000 in
theorem wl_main (A : Option Addr) (n1 c1 : Nat) (zs : List Int) (n : Nat) (w : World) (h1 : Bs w A n1 c1 zs) (hn1 : n1 ≤ 300) (hn : n ≤ 300) : Calls Try.prog 8 #[.slice A n1 c1, .int .i64 n] w fun e w' => e = .returned (.bool true) ∧ Below w.heap.size w w' := by
  have d1 : decide (300 < (n1 : Int)) = false := by simp; omega
  have d2 : decide ((n : Int) < 0) = false := by simp
  have d3 : decide (300 < (n : Int)) = false := by simp; omega
  have L1 := Lib.hid h1.len
  have BY := Lib.hid h1.byte
  have le1 := h1.le
  have mx1 := h1.max
  have H1 := Lib.hid h1
  clear h1
  go_enter Try.func8, Try.ntmps8
  go_wp2_with (first | (go_at_call 19; refine (alive18_any _).mono ?_; rintro e w1 ⟨rfl, hk⟩) | (go_at_call 20; refine (wnew_any _).mono ?_; rintro e w2 ⟨rfl, hw2, k2⟩))
  have hb := below_keeps hk k2 (fun _ h => h.elim)
  have hs := hk.size
  generalize w1.heap.size = b at *
  have HW2 := Lib.hid hw2
  have HB := Lib.hid hb
  clear hw2 hk k2 hb
  go_loopw [7] (fun i wr => ∃ k : Nat, k ≤ 5000 ∧ i = .int .i64 k ∧ Win wr b (List.replicate k 1) ∧ Below w.heap.size w wr) (fun i _ => 5000 - (intOf i).toNat)
  case atStart => exact ⟨0, Nat.zero_le _, rfl, HW2.out, HB.out⟩
  case round =>
    obtain ⟨k, hkn, rfl, hw, hb⟩ := hrel
    clear HW2 HB
    by_cases hlt : k < 5000
    · have HP := Lib.hid (wput_any b (List.replicate k 1) 1 wr hw (by rw [List.length_replicate]; omega))
      go_wp2_with (go_at_call 21; refine HP.out.mono ?_; rintro e w3 ⟨rfl, hw3, k3⟩)
      go_roundw
      case rel => exact ⟨k + 1, by omega, by go_num, by rw [List.replicate_succ']; exact hw3, below_keeps hb k3 (fun _ h => by subst h; exact hs)⟩
      case measure => simp [intOf]; omega
    · have HC := Lib.hid (wclear_any b _ wr hw)
      have HB := Lib.hid hb
      clear hw hb
      go_wp2_with (go_at_call 33; refine HC.out.mono ?_; rintro e w4 ⟨rfl, hw4, k4⟩)
      have HB4 := Lib.hid (below_keeps HB.out k4 (fun _ h => by subst h; exact hs))
      have HW4 := Lib.hid hw4
      clear hw4 k4 HC HB hlt hkn
      go_loopw [8] (fun i wr => ∃ k : Nat, k ≤ n1 ∧ i = .int .i64 k ∧ Win wr b (zs.take k) ∧ Below w.heap.size w wr) (fun i _ => n1 - (intOf i).toNat)
      case atStart => exact ⟨0, Nat.zero_le _, rfl, HW4.out, HB4.out⟩
      case round =>
        obtain ⟨k, hkn, rfl, hw, hb⟩ := hrel
        clear HW4 HB4
        by_cases hlt : k < n1
        · obtain ⟨bl1, of1, x1, rfl, hx1, hx1a, hx1b, hc1⟩ := (bs_under H1.out hb).get hlt
          have HP := Lib.hid (wput_any b (zs.take k) x1 wr hw (by rw [List.length_take]; omega))
          have HT : Hid (zs.take k ++ [x1] = zs.take (k + 1)) := by
            have hk2 : k < zs.length := by rw [L1.out]; exact hlt
            rw [← hx1, getD_get 0 hk2]
            exact take_snoc zs k hk2
          have HB := Lib.hid hb
          clear hw hb hx1
          go_wp2_with (go_at_call 21; refine HP.out.mono ?_; rintro e w3 ⟨rfl, hw3, k3⟩)
          go_roundw
          case rel => exact ⟨k + 1, by omega, by go_num, by rw [← HT.out]; exact hw3, below_keeps HB.out k3 (fun _ h => by subst h; exact hs)⟩
          case measure => simp [intOf]; omega
        · have e : zs.take k = zs := List.take_of_length_le (by rw [L1.out]; omega)
          rw [e] at hw
          have HL := Lib.hid (wlast_any b zs n wr hw (by rw [L1.out]; omega) BY.out)
          have HW := Lib.hid hw
          have HB := Lib.hid hb
          have hge : n1 ≤ k := by omega
          clear hw hb e hlt hkn
          go_wp2_with (go_at_call 35; go_loud (refine HL.out.mono ?_); go_loud (rintro e w5 ⟨v5, rfl, ho5, k5⟩))
          obtain ⟨A5, cap5, rfl, hbs5, -⟩ := ho5.shape
          have hlen : (lastN zs n).length = min n n1 := by rw [lastN_length, L1.out]; omega
          rw [hlen] at hbs5 ⊢
          have HB5 := Lib.hid (below_keeps HB.out k5 (fun _ h => h.elim))
          have HW5 := Lib.hid (HW.out.keeps k5 (fun h => h))
          have LN : Hid ((lastN zs n).length = min n n1) := hlen
          have G := Lib.hid (lastN_get zs n)
          have DR : Hid (lastN zs n = zs.drop (n1 - min n n1)) := by
            have := lastN_drop zs n (min n n1) (by rw [L1.out]; omega) (by rw [L1.out]; omega)
            rw [L1.out] at this; exact this
          have HO5 := Lib.hid hbs5
          have le5 := hbs5.le
          have mx5 := hbs5.max
          rw [hlen] at G
          clear hbs5 ho5 k5 hlen HL HW HB
          generalize lastN zs n = ls at *
          have hL1 : min n n1 ≤ n1 := by omega
          have hL2 : min n n1 ≤ n := by omega
          obtain ⟨L, HLL⟩ : ∃ L, Hid (min n n1 = L) := ⟨_, rfl⟩
          rw [HLL.out] at HO5 LN DR G le5 hL1 hL2
          rw [HLL.out]
          go_wp2
          go_loopw [10, 11, 12] (fun i _ _ wr => ∃ k : Nat, k ≤ L ∧ i = .int .i64 k ∧ ∃ m, wr = w5.drewN m) (fun i _ _ _ => L - (intOf i).toNat)
          case atStart => exact ⟨0, Nat.zero_le _, rfl, 0, rfl⟩
          case round =>
            obtain ⟨j, hjn, rfl, m, rfl⟩ := hrel
            by_cases hlt : j < L
            · obtain ⟨bl5, of5, x5, rfl, hx5, hx5a, hx5b, hc5⟩ := HO5.out.get hlt
              have hj2 : ((j : Int) < L) := by omega
              have Y := Lib.hid (wback_yes b zs (L - j) x5 (w5.drewN m) (HW5.out.drewN m) (by rw [L1.out]; omega) (by omega) (by rw [L1.out]; omega) (by omega) (by rw [← hx5, G.out j hlt]))
              have ej : ((L - j : Nat) : Int) = (L) - j := by omega
              rw [ej] at Y
              clear HO5 ej hx5
              go_wp2_with (go_at_call 22; refine Y.out.mono ?_; rintro e w6 ⟨rfl, nq, rfl⟩)
              go_roundw
              case rel => exact ⟨j + 1, by omega, by go_num, _, rfl⟩
              case measure => simp [intOf]; omega
            · have hj1 : L ≤ j := by omega
              clear hlt hjn
              have HB6 := Lib.hid (below_drewN HB5.out m)
              have S5 := run_str (HO5.out.drewN m).drew
              rw [DR.out] at S5
              clear HW5 G DR BY HO5
              obtain ⟨s5, HS5⟩ : ∃ s, Hid (strOf (zs.drop (n1 - L)) = s) := ⟨_, rfl⟩
              rw [HS5.out] at S5
              have HB7 := Lib.hid (bs_under H1.out HB6.out)
              by_cases hn0 : n1 = 0
              · subst hn0
                obtain rfl : L = 0 := by omega
                cases A with
                | none =>
                  have SS5 := Lib.hid S5
                  have S1 := Lib.hid (run_str HB7.out.drew)
                  rw [List.drop_zero] at HS5
                  rw [HS5.out] at S1
                  clear S5
                  by_cases hnn : n = 0
                  · subst hnn
                    go_wp2
                    obtain ⟨mS, mh⟩ : ∃ S : World → Prop, ∀ w', S w' ↔ (((convert 49 9 (.slice A5 0 cap5)).run Try.prog w' = .ok (.string s5) w') ∧ ((convert 49 9 (.slice none 0 c1)).run Try.prog w' = .ok (.string s5) w')) := ⟨_, fun _ => Iff.rfl⟩
                    have mk0 : ∀ x : Memb mS, (convert 49 9 (.slice A5 0 cap5)).run Try.prog x.at_ = .ok (.string s5) x.at_ := fun x => ((mh _).1 x.is).1
                    have mk1 : ∀ x : Memb mS, (convert 49 9 (.slice none 0 c1)).run Try.prog x.at_ = .ok (.string s5) x.at_ := fun x => ((mh _).1 x.is).2
                    have mn : Nonempty (Memb mS) := ⟨⟨((w5.drewN m)).drew, (mh _).2 ⟨SS5.out, S1.out⟩⟩⟩
                    have mH := Lib.hid mh
                    clear mh
                    refine wp_region_mix [] (InS mS) (by kernel_rfl) (by kernel_rfl) (InS.mk ((mH.out _).2 ⟨SS5.out, S1.out⟩)) ?_
                    refine wpMix_seg 17 (by kernel_rfl) (by decide) ?_
                    simp only [List.take_succ_cons, List.take_zero, List.drop_succ_cons, List.drop_zero]
                    repeat (first | go_big_quiet_step (fail) | (go_big_quiet_want; first | refine quiet_conv mk0 rfl rfl rfl (by simp only [Act.put, List.setIfInBounds_toArray, List.set_cons_succ, List.set_cons_zero]; rfl) ?_; go_big_quiet_on | refine quiet_conv mk1 rfl rfl rfl (by simp only [Act.put, List.setIfInBounds_toArray, List.set_cons_succ, List.set_cons_zero]; rfl) ?_; go_big_quiet_on))
                    refine wpQuiet_nil ?_
                    refine wpMix_nil ?_
                    clear mk0 mk1 mn mH
                    all_goals go_wp2
                    all_goals go_ret
                    all_goals exact ⟨rfl, below_drew1 (below_drewN HB5.out _)⟩
                  · have hnn2 : 0 < n := by omega
                    go_wp2
                    obtain ⟨mS, mh⟩ : ∃ S : World → Prop, ∀ w', S w' ↔ (((convert 49 9 (.slice A5 0 cap5)).run Try.prog w' = .ok (.string s5) w') ∧ ((convert 49 9 (.slice none 0 c1)).run Try.prog w' = .ok (.string s5) w')) := ⟨_, fun _ => Iff.rfl⟩
                    have mk0 : ∀ x : Memb mS, (convert 49 9 (.slice A5 0 cap5)).run Try.prog x.at_ = .ok (.string s5) x.at_ := fun x => ((mh _).1 x.is).1
                    have mk1 : ∀ x : Memb mS, (convert 49 9 (.slice none 0 c1)).run Try.prog x.at_ = .ok (.string s5) x.at_ := fun x => ((mh _).1 x.is).2
                    have mn : Nonempty (Memb mS) := ⟨⟨((w5.drewN m)).drew, (mh _).2 ⟨SS5.out, S1.out⟩⟩⟩
                    have mH := Lib.hid mh
                    clear mh
                    refine wp_region_mix [] (InS mS) (by kernel_rfl) (by kernel_rfl) (InS.mk ((mH.out _).2 ⟨SS5.out, S1.out⟩)) ?_
                    refine wpMix_seg 17 (by kernel_rfl) (by decide) ?_
                    simp only [List.take_succ_cons, List.take_zero, List.drop_succ_cons, List.drop_zero]
                    repeat (first | go_big_quiet_step (fail) | (go_big_quiet_want; first | refine quiet_conv mk0 rfl rfl rfl (by simp only [Act.put, List.setIfInBounds_toArray, List.set_cons_succ, List.set_cons_zero]; rfl) ?_; go_big_quiet_on | refine quiet_conv mk1 rfl rfl rfl (by simp only [Act.put, List.setIfInBounds_toArray, List.set_cons_succ, List.set_cons_zero]; rfl) ?_; go_big_quiet_on))
                    refine wpQuiet_nil ?_
                    refine wpMix_nil ?_
                    clear mk0 mk1 mn mH
                    all_goals go_wp2
                    all_goals go_ret
                    all_goals exact ⟨rfl, below_drew1 (below_drewN HB5.out _)⟩
                | some a =>
                  have SS5 := Lib.hid S5
                  have ez : zs = [] := List.eq_nil_of_length_eq_zero L1.out
                  have S1 := Lib.hid (run_str (Bs.empty (w5.drewN m).drew a c1 mx1))
                  have S2 := Lib.hid (run_str (Bs.empty (w5.drewN m).drew (a.add 0) c1 mx1))
                  rw [List.drop_zero, ez] at HS5
                  rw [HS5.out] at S1 S2
                  clear S5 ez
                  by_cases hnn : n = 0
                  · subst hnn
                    go_wp2
                    obtain ⟨mS, mh⟩ : ∃ S : World → Prop, ∀ w', S w' ↔ (((convert 49 9 (.slice A5 0 cap5)).run Try.prog w' = .ok (.string s5) w') ∧ ((convert 49 9 (.slice (some a) 0 c1)).run Try.prog w' = .ok (.string s5) w') ∧ ((convert 49 9 (.slice (some (a.add 0)) 0 c1)).run Try.prog w' = .ok (.string s5) w')) := ⟨_, fun _ => Iff.rfl⟩
                    have mk0 : ∀ x : Memb mS, (convert 49 9 (.slice A5 0 cap5)).run Try.prog x.at_ = .ok (.string s5) x.at_ := fun x => ((mh _).1 x.is).1
                    have mk1 : ∀ x : Memb mS, (convert 49 9 (.slice (some a) 0 c1)).run Try.prog x.at_ = .ok (.string s5) x.at_ := fun x => ((mh _).1 x.is).2.1
                    have mk2 : ∀ x : Memb mS, (convert 49 9 (.slice (some (a.add 0)) 0 c1)).run Try.prog x.at_ = .ok (.string s5) x.at_ := fun x => ((mh _).1 x.is).2.2
                    have mn : Nonempty (Memb mS) := ⟨⟨((w5.drewN m)).drew, (mh _).2 ⟨SS5.out, S1.out, S2.out⟩⟩⟩
                    have mH := Lib.hid mh
                    clear mh
                    refine wp_region_mix [] (InS mS) (by kernel_rfl) (by kernel_rfl) (InS.mk ((mH.out _).2 ⟨SS5.out, S1.out, S2.out⟩)) ?_
                    refine wpMix_seg 17 (by kernel_rfl) (by decide) ?_
                    simp only [List.take_succ_cons, List.take_zero, List.drop_succ_cons, List.drop_zero]
                    repeat (first | go_big_quiet_step (fail) | (go_big_quiet_want; first | refine quiet_conv mk0 rfl rfl rfl (by simp only [Act.put, List.setIfInBounds_toArray, List.set_cons_succ, List.set_cons_zero]; rfl) ?_; go_big_quiet_on | refine quiet_conv mk1 rfl rfl rfl (by simp only [Act.put, List.setIfInBounds_toArray, List.set_cons_succ, List.set_cons_zero]; rfl) ?_; go_big_quiet_on | refine quiet_conv mk2 rfl rfl rfl (by simp only [Act.put, List.setIfInBounds_toArray, List.set_cons_succ, List.set_cons_zero]; rfl) ?_; go_big_quiet_on))
                    refine wpQuiet_nil ?_
                    refine wpMix_nil ?_
                    clear mk0 mk1 mk2 mn mH
                    all_goals go_wp2
                    all_goals go_ret
                    all_goals exact ⟨rfl, below_drew1 (below_drewN HB5.out _)⟩
                  · have hnn2 : 0 < n := by omega
                    go_wp2
                    obtain ⟨mS, mh⟩ : ∃ S : World → Prop, ∀ w', S w' ↔ (((convert 49 9 (.slice A5 0 cap5)).run Try.prog w' = .ok (.string s5) w') ∧ ((convert 49 9 (.slice (some a) 0 c1)).run Try.prog w' = .ok (.string s5) w') ∧ ((convert 49 9 (.slice (some (a.add 0)) 0 c1)).run Try.prog w' = .ok (.string s5) w')) := ⟨_, fun _ => Iff.rfl⟩
                    have mk0 : ∀ x : Memb mS, (convert 49 9 (.slice A5 0 cap5)).run Try.prog x.at_ = .ok (.string s5) x.at_ := fun x => ((mh _).1 x.is).1
                    have mk1 : ∀ x : Memb mS, (convert 49 9 (.slice (some a) 0 c1)).run Try.prog x.at_ = .ok (.string s5) x.at_ := fun x => ((mh _).1 x.is).2.1
                    have mk2 : ∀ x : Memb mS, (convert 49 9 (.slice (some (a.add 0)) 0 c1)).run Try.prog x.at_ = .ok (.string s5) x.at_ := fun x => ((mh _).1 x.is).2.2
                    have mn : Nonempty (Memb mS) := ⟨⟨((w5.drewN m)).drew, (mh _).2 ⟨SS5.out, S1.out, S2.out⟩⟩⟩
                    have mH := Lib.hid mh
                    clear mh
                    refine wp_region_mix [] (InS mS) (by kernel_rfl) (by kernel_rfl) (InS.mk ((mH.out _).2 ⟨SS5.out, S1.out, S2.out⟩)) ?_
                    refine wpMix_seg 17 (by kernel_rfl) (by decide) ?_
                    simp only [List.take_succ_cons, List.take_zero, List.drop_succ_cons, List.drop_zero]
                    repeat (first | go_big_quiet_step (fail) | (go_big_quiet_want; first | refine quiet_conv mk0 rfl rfl rfl (by simp only [Act.put, List.setIfInBounds_toArray, List.set_cons_succ, List.set_cons_zero]; rfl) ?_; go_big_quiet_on | refine quiet_conv mk1 rfl rfl rfl (by simp only [Act.put, List.setIfInBounds_toArray, List.set_cons_succ, List.set_cons_zero]; rfl) ?_; go_big_quiet_on | refine quiet_conv mk2 rfl rfl rfl (by simp only [Act.put, List.setIfInBounds_toArray, List.set_cons_succ, List.set_cons_zero]; rfl) ?_; go_big_quiet_on))
                    refine wpQuiet_nil ?_
                    refine wpMix_nil ?_
                    clear mk0 mk1 mk2 mn mH
                    all_goals go_wp2
                    all_goals go_ret
                    all_goals exact ⟨rfl, below_drew1 (below_drewN HB5.out _)⟩
              · obtain ⟨bl1, of1, rfl, -, -⟩ := H1.out.at_ (by omega)
                by_cases hnn : n ≤ n1
                · obtain rfl : L = n := by have := HLL.out; omega
                  have S1 := Lib.hid (run_str (HB7.out.drew.dropIf (show n1 - L ≤ n1 by omega)))
                  rw [HS5.out] at S1
                  have SS5 := Lib.hid S5
                  clear S5
                  go_wp2
                  obtain ⟨mS, mh⟩ : ∃ S : World → Prop, ∀ w', S w' ↔ (((convert 49 9 (.slice A5 L cap5)).run Try.prog w' = .ok (.string s5) w') ∧ ((convert 49 9 (.slice (if c1 = n1 - L then some ⟨bl1, of1, none⟩ else some ⟨bl1, of1 + (n1 - L), none⟩) (n1 - (n1 - L)) (c1 - (n1 - L)))).run Try.prog w' = .ok (.string s5) w')) := ⟨_, fun _ => Iff.rfl⟩
                  have mk0 : ∀ x : Memb mS, (convert 49 9 (.slice A5 L cap5)).run Try.prog x.at_ = .ok (.string s5) x.at_ := fun x => ((mh _).1 x.is).1
                  have mk1 : ∀ x : Memb mS, (convert 49 9 (.slice (if c1 = n1 - L then some ⟨bl1, of1, none⟩ else some ⟨bl1, of1 + (n1 - L), none⟩) (n1 - (n1 - L)) (c1 - (n1 - L)))).run Try.prog x.at_ = .ok (.string s5) x.at_ := fun x => ((mh _).1 x.is).2
                  have mn : Nonempty (Memb mS) := ⟨⟨((w5.drewN m)).drew, (mh _).2 ⟨SS5.out, S1.out⟩⟩⟩
                  have mH := Lib.hid mh
                  clear mh
                  refine wp_region_mix [] (InS mS) (by kernel_rfl) (by kernel_rfl) (InS.mk ((mH.out _).2 ⟨SS5.out, S1.out⟩)) ?_
                  refine wpMix_seg 17 (by kernel_rfl) (by decide) ?_
                  simp only [List.take_succ_cons, List.take_zero, List.drop_succ_cons, List.drop_zero]
                  repeat (first | go_big_quiet_step (fail) | (go_big_quiet_want; first | refine quiet_conv mk0 rfl rfl rfl (by simp only [Act.put, List.setIfInBounds_toArray, List.set_cons_succ, List.set_cons_zero]; rfl) ?_; go_big_quiet_on | refine quiet_conv mk1 rfl rfl rfl (by simp only [Act.put, List.setIfInBounds_toArray, List.set_cons_succ, List.set_cons_zero]; rfl) ?_; go_big_quiet_on))
                  refine wpQuiet_nil ?_
                  refine wpMix_nil ?_
                  clear mk0 mk1 mn mH
                  all_goals go_wp2
                  all_goals go_ret
                  all_goals exact ⟨rfl, below_drew1 (below_drewN HB5.out _)⟩
                · obtain rfl : L = n1 := by have := HLL.out; omega
                  have S1 := Lib.hid (run_str HB7.out.drew)
                  rw [Nat.sub_self, List.drop_zero] at HS5
                  rw [HS5.out] at S1
                  have SS5 := Lib.hid S5
                  clear S5
                  go_wp2
                  obtain ⟨mS, mh⟩ : ∃ S : World → Prop, ∀ w', S w' ↔ (((convert 49 9 (.slice A5 L cap5)).run Try.prog w' = .ok (.string s5) w') ∧ ((convert 49 9 (.slice (some ⟨bl1, of1, none⟩) L c1)).run Try.prog w' = .ok (.string s5) w')) := ⟨_, fun _ => Iff.rfl⟩
                  have mk0 : ∀ x : Memb mS, (convert 49 9 (.slice A5 L cap5)).run Try.prog x.at_ = .ok (.string s5) x.at_ := fun x => ((mh _).1 x.is).1
                  have mk1 : ∀ x : Memb mS, (convert 49 9 (.slice (some ⟨bl1, of1, none⟩) L c1)).run Try.prog x.at_ = .ok (.string s5) x.at_ := fun x => ((mh _).1 x.is).2
                  have mn : Nonempty (Memb mS) := ⟨⟨((w5.drewN m)).drew, (mh _).2 ⟨SS5.out, S1.out⟩⟩⟩
                  have mH := Lib.hid mh
                  clear mh
                  refine wp_region_mix [] (InS mS) (by kernel_rfl) (by kernel_rfl) (InS.mk ((mH.out _).2 ⟨SS5.out, S1.out⟩)) ?_
                  refine wpMix_seg 17 (by kernel_rfl) (by decide) ?_
                  simp only [List.take_succ_cons, List.take_zero, List.drop_succ_cons, List.drop_zero]
                  repeat (first | go_big_quiet_step (fail) | (go_big_quiet_want; first | refine quiet_conv mk0 rfl rfl rfl (by simp only [Act.put, List.setIfInBounds_toArray, List.set_cons_succ, List.set_cons_zero]; rfl) ?_; go_big_quiet_on | refine quiet_conv mk1 rfl rfl rfl (by simp only [Act.put, List.setIfInBounds_toArray, List.set_cons_succ, List.set_cons_zero]; rfl) ?_; go_big_quiet_on))
                  refine wpQuiet_nil ?_
                  refine wpMix_nil ?_
                  clear mk0 mk1 mn mH
                  all_goals go_wp2
                  all_goals go_ret
                  all_goals exact ⟨rfl, below_drew1 (below_drewN HB5.out _)⟩
end Go.Proofs.Ytfagljhjakcfnaa
