/- The walks of the reference's functions on cells: bit, picked, Can, Program, Torn, Between, Half, Risen, IsBlank. -/
import Derived.Test.YtngofnlhbhfigaaNorTwice
import Derived.Test.YtngofnlhbhfigaaBits2
namespace Go.Proofs.Ytngofnlhbhfigaa
open Go.RowKit

theorem test_eq (x k : Nat) : x.testBit k = decide (x / 2 ^ k % 2 = 1) := Nat.testBit_eq_decide_div_mod_eq
theorem byte_high {a k : Nat} (ha : a < 256) (hk : 8 ≤ k) : a.testBit k = false :=
  Nat.testBit_lt_two_pow (Nat.lt_of_lt_of_le ha (by have := Nat.pow_le_pow_right (show 0 < 2 by decide) hk; simpa using this))
theorem byte_bits {a b : Nat} (ha : a < 256) : a &&& b = a ↔ ∀ k, k < 8 → a / 2 ^ k % 2 ≤ b / 2 ^ k % 2 := by
  constructor
  · intro h k _
    have h2 : (a &&& b).testBit k = a.testBit k := by rw [h]
    rw [Nat.testBit_and, test_eq, test_eq] at h2
    by_cases h3 : a / 2 ^ k % 2 = 1
    · rw [h3] at h2; simp at h2; omega
    · omega
  · intro h
    apply Nat.eq_of_testBit_eq
    intro k
    rw [Nat.testBit_and]
    by_cases hk : k < 8
    · have := h k hk
      rw [test_eq, test_eq]
      by_cases h3 : a / 2 ^ k % 2 = 1
      · have h4 : b / 2 ^ k % 2 = 1 := by omega
        rw [h3, h4]; rfl
      · simp [h3]
    · rw [byte_high ha (by omega)]; rfl
/-- The bits of p that o lacks, laid onto o, the lowest k of them. -/
def onto (o p k : Nat) : Nat := o ||| (p &&& (2 ^ k - 1))
theorem onto_zero (o p : Nat) : onto o p 0 = o := by simp [onto]
theorem onto_all (o p : Nat) (hp : p < 256) : onto o p 8 = o ||| p := by
  unfold onto
  rw [Nat.and_two_pow_sub_one_eq_mod, Nat.mod_eq_of_lt hp]
theorem onto_lt (o p k : Nat) (ho : o < 256) (hp : p < 256) : onto o p k < 256 := by
  unfold onto
  have : p &&& (2 ^ k - 1) ≤ p := Nat.and_le_left
  exact Nat.or_lt_two_pow (n := 8) ho (by omega)
theorem onto_test (o p k i : Nat) : (onto o p k).testBit i = (o.testBit i || (p.testBit i && decide (i < k))) := by
  simp [onto, Nat.testBit_or, Nat.testBit_and, Nat.testBit_two_pow_sub_one, Bool.and_comm]
theorem onto_stay (o p k : Nat) (h : ¬ (o / 2 ^ k % 2 = 0 ∧ p / 2 ^ k % 2 = 1)) : onto o p (k + 1) = onto o p k := by
  apply Nat.eq_of_testBit_eq
  intro i
  rw [onto_test, onto_test]
  by_cases e : i = k
  · subst e
    rw [test_eq, test_eq]
    by_cases h1 : o / 2 ^ i % 2 = 1
    · simp [h1]
    · have : ¬ p / 2 ^ i % 2 = 1 := fun h2 => h ⟨by omega, h2⟩
      simp [this]
  · have : decide (i < k + 1) = decide (i < k) := by simp; omega
    rw [this]
theorem add_bit : ∀ (x : Fin 256) (k : Fin 8), x.val / 2 ^ k.val % 2 = 0 → x.val + 2 ^ k.val = x.val ||| 2 ^ k.val ∧ x.val + 2 ^ k.val < 256 := by decide +kernel
theorem onto_add (o p k : Nat) (ho : o < 256) (hp : p < 256) (hk : k < 8) (h1 : o / 2 ^ k % 2 = 0) (h2 : p / 2 ^ k % 2 = 1) : onto o p (k + 1) = onto o p k + 2 ^ k ∧ onto o p k + 2 ^ k < 256 := by
  have hl := onto_lt o p k ho hp
  have hb : (onto o p k).testBit k = false := by rw [onto_test, test_eq, h1]; simp
  have hz : onto o p k / 2 ^ k % 2 = 0 := by
    rw [test_eq] at hb
    have := of_decide_eq_false hb
    omega
  obtain ⟨e1, e2⟩ := add_bit ⟨_, hl⟩ ⟨k, hk⟩ hz
  refine ⟨?_, e2⟩
  simp only at e1
  rw [e1]
  apply Nat.eq_of_testBit_eq
  intro i
  rw [onto_test, Nat.testBit_or, onto_test, Nat.testBit_two_pow]
  by_cases e : i = k
  · subst e
    rw [test_eq p, h2]; simp
  · have : decide (i < k + 1) = decide (i < k) := by simp; omega
    have h3 : decide (k = i) = false := by simp; omega
    rw [this, h3, Bool.or_false]

/-- A value, and the world as it was. -/
def Same (v : Value) (w : World) (e : Ending) (w' : World) : Prop := e = .returned v ∧ w = w'
theorem Same.to {v v' : Value} {w w' : World} {e : Ending} (h : Same v w e w') (hv : v = v') : Same v' w e w' := by rw [← hv]; exact h

theorem and_bit (a b k : Nat) : (a &&& b) / 2 ^ k % 2 = 1 ↔ a / 2 ^ k % 2 = 1 ∧ b / 2 ^ k % 2 = 1 := by
  have := Nat.testBit_and a b k
  rw [test_eq, test_eq, test_eq] at this
  constructor
  · intro h; rw [h] at this; simpa using this.symm
  · rintro ⟨h1, h2⟩; rw [h1, h2] at this; simpa using this
theorem set_getD_self (l : List Int) (k : Nat) : l.set k (l.getD k 0) = l := by
  apply List.ext_getElem?
  intro i
  by_cases hi : i < l.length
  · by_cases e : i = k
    · subst e; simp [List.getD, hi]
    · have : k ≠ i := fun h => e h.symm
      simp [List.getElem?_set, this]
  · rw [List.getElem?_eq_none (by simpa using Nat.le_of_not_lt hi), List.getElem?_eq_none (Nat.le_of_not_lt hi)]

set_option maxRecDepth 100000 in
theorem rbit_any (x k : Nat) (hx : x < 256) (hk : k < 8) (w : World) : Calls Try.prog 105 #[.int .u8 x, .int .i64 k] w (Same (.int .i64 ((x / 2 ^ k % 2 : Nat) : Int)) w) := by
  have hd : x / 2 ^ k < 256 := Nat.lt_of_le_of_lt (Nat.div_le_self _ _) hx
  have e1 := i64_and_one (x / 2 ^ k) (by omega)
  have FIN := Lib.hid e1
  have e2 : ((x : Int) / 2 ^ k) = ((x / 2 ^ k : Nat) : Int) := by simp
  have HW : Hid (wrap64 ((x : Int) / 2 ^ k) = ((x / 2 ^ k : Nat) : Int)) := by
    show wrap64 _ = _
    rw [e2]; clear e1 e2 FIN; generalize x / 2 ^ k = y at *; unfold wrap64; omega
  clear e1 e2
  go_enter Try.func105, Try.ntmps105
  go_wp2
  go_ret
  exact ⟨ret_int (by rw [HW.out, FIN.out]), rfl⟩

set_option maxRecDepth 100000 in
theorem rpicked_any (A : Option Addr) (n cap : Nat) (zs : List Int) (i : Nat) (w : World) (h : Bs w A n cap zs) (hi : i < 9223372036854775807) :
    Calls Try.prog 106 #[.slice A n cap, .int .i64 i] w (Same (.int .u8 (zs.getD i 0)) w) := by
  have m1 := h.le
  have m2 := h.max
  by_cases hlt : i < n
  · obtain ⟨b, off, z, rfl, g, _, _, cc⟩ := h.get hlt
    rw [g]
    clear g
    go_enter Try.func106, Try.ntmps106
    go_wp2
    go_ret
    exact ⟨rfl, rfl⟩
  · have g : zs.getD i 0 = 0 := by
      have := h.len
      simp [List.getD, List.getElem?_eq_none (show zs.length ≤ i by omega)]
    rw [g]
    clear g
    go_enter Try.func106, Try.ntmps106
    go_wp2
    go_ret
    exact ⟨rfl, rfl⟩

set_option maxRecDepth 100000 in
theorem risBlank_any (A : Option Addr) (n cap : Nat) (zs : List Int) (w : World) (h : Bs w A n cap zs) :
    Calls Try.prog 102 #[.slice A n cap] w (Same (.bool (blankB zs)) w) := by
  have m1 := h.le
  have m2 := h.max
  have H := Lib.hid h
  clear h
  go_enter Try.func102, Try.ntmps102
  go_wp2
  go_loop [3] (fun i => ∃ k : Nat, k ≤ n ∧ i = .int .i64 k ∧ ∀ j, j < k → zs.getD j 0 = 255) (fun i => n - (intOf i).toNat)
  case atStart => exact ⟨0, Nat.zero_le _, rfl, fun i hi => by omega⟩
  case round =>
    obtain ⟨k, hkn, rfl, hall⟩ := hrel
    have HA := Lib.hid hall
    clear hall
    by_cases hlt : k < n
    · obtain ⟨b, off, z, rfl, g, _, _, cc⟩ := H.out.get hlt
      have G := Lib.hid g
      clear g
      by_cases hz : z = 255
      · have q : (z != 255) = false := by simp [hz]
        have HZ := Lib.hid hz
        clear hz
        go_wp2
        go_round
        case rel =>
          refine ⟨k + 1, by omega, by go_num, fun i hi => ?_⟩
          by_cases e : i = k
          · subst e; rw [G.out]; exact HZ.out
          · exact HA.out i (by omega)
        case measure => simp [intOf]; omega
      · have q : (z != 255) = true := by simp [hz]
        have fin : blankB zs = false := by
          simp only [blankB, decide_eq_false_iff_not]
          intro h
          exact hz (by rw [← G.out]; exact h k (by have := H.out.len; omega))
        have FIN := Lib.hid fin
        clear hz fin
        go_wp2
        go_ret
        exact ⟨ret_bool FIN.out.symm, rfl⟩
    · have fin : blankB zs = true := by
        simp only [blankB, decide_eq_true_eq]
        have l1 := H.out.len
        exact fun i hi => HA.out i (by omega)
      have FIN := Lib.hid fin
      clear fin
      go_wp2
      go_ret
      exact ⟨ret_bool FIN.out.symm, rfl⟩

set_option maxRecDepth 100000 in
set_option maxHeartbeats 1600000 in
theorem rcan_any (A1 A2 : Option Addr) (n1 c1 n2 c2 : Nat) (os ns : List Int) (w : World) (h1 : Bs w A1 n1 c1 os) (h2 : Bs w A2 n2 c2 ns) :
    Calls Try.prog 96 #[.slice A1 n1 c1, .slice A2 n2 c2] w (Told (canN os ns) w) := by
  have m1 := h1.le
  have m2 := h1.max
  have m3 := h2.le
  have m4 := h2.max
  by_cases hn : n1 = n2
  · subst hn
    have e1 : ((n1 : Int) != n1) = false := by simp
    have CI := Lib.hid (canN_iff h1.byte h2.byte)
    have H1 := Lib.hid h1
    have H2 := Lib.hid h2
    clear h1 h2
    go_enter Try.func96, Try.ntmps96
    go_wp2
    go_loopw [5] (fun i wr => ∃ k m : Nat, k ≤ n1 ∧ i = .int .i64 k ∧ wr = w.drewN m ∧ ∀ i, i < k → (ns.getD i 0).toNat &&& (os.getD i 0).toNat = (ns.getD i 0).toNat) (fun i _ => n1 - (intOf i).toNat)
    case atStart => exact ⟨0, 0, Nat.zero_le _, rfl, rfl, fun i hi => by omega⟩
    case round =>
      obtain ⟨k, m, hkn, rfl, rfl, hall⟩ := hrel
      have HA := Lib.hid hall
      clear hall
      by_cases hlt : k < n1
      · obtain ⟨b1, o1, z1, rfl, g1, z1a, z1b, cc1⟩ := H1.out.get hlt
        obtain ⟨b2, o2, z2, rfl, g2, z2a, z2b, cc2⟩ := H2.out.get hlt
        obtain ⟨x1, rfl⟩ := Int.eq_ofNat_of_zero_le z1a
        obtain ⟨x2, rfl⟩ := Int.eq_ofNat_of_zero_le z2a
        have hx1 : x1 < 256 := by omega
        have hx2 : x2 < 256 := by omega
        have G1 := Lib.hid g1
        have G2 := Lib.hid g2
        clear g1 g2
        go_wp2
        go_loopw [6] (fun j wr => ∃ q m' : Nat, q ≤ 8 ∧ j = .int .i64 q ∧ wr = w.drewN m' ∧ ∀ t, t < q → x2 / 2 ^ t % 2 ≤ x1 / 2 ^ t % 2) (fun j _ => 8 - (intOf j).toNat)
        case atStart => exact ⟨0, m, by omega, rfl, rfl, fun t ht => by omega⟩
        case round =>
          obtain ⟨q, m', hq, rfl, rfl, hin⟩ := hrel
          have HI := Lib.hid hin
          clear hin
          by_cases h8 : q < 8
          · have R1 := Lib.hid fun w => rbit_any x1 q hx1 h8 w
            have R2 := Lib.hid fun w => rbit_any x2 q hx2 h8 w
            obtain ⟨y1, hy1⟩ : ∃ y, Hid (x1 / 2 ^ q % 2 = y) := ⟨_, rfl⟩
            obtain ⟨y2, hy2⟩ : ∃ y, Hid (x2 / 2 ^ q % 2 = y) := ⟨_, rfl⟩
            rw [hy1.out] at R1
            rw [hy2.out] at R2
            by_cases hb : y1 < y2
            · have q1 : decide (y1 < y2) = true := decide_eq_true hb
              have q2 : decide ((y1 : Int) < y2) = true := decide_eq_true (by omega)
              have fin : canN os ns = false := by
                cases hc : canN os ns with
                | false => rfl
                | true =>
                  have := (CI.out.1 hc).2 k
                  rw [G1.out, G2.out, Int.toNat_natCast, Int.toNat_natCast] at this
                  have := (byte_bits hx2).1 this q h8
                  rw [hy1.out, hy2.out] at this
                  omega
              have FIN := Lib.hid fin
              clear fin hb
              go_wp2
              obtain ⟨mS, mh⟩ : ∃ S : World → Prop, ∀ w', S w' ↔ (w'.cell? ⟨b2, o2 + k, none⟩ = some (.int .u8 x2) ∧ w'.cell? ⟨b1, o1 + k, none⟩ = some (.int .u8 x1)) := ⟨_, fun _ => Iff.rfl⟩
              have mk0 : ∀ x : Memb mS, x.at_.cell? ⟨b2, o2 + k, none⟩ = some (.int .u8 x2) := fun x => ((mh _).1 x.is).1
              have mk1 : ∀ x : Memb mS, x.at_.cell? ⟨b1, o1 + k, none⟩ = some (.int .u8 x1) := fun x => ((mh _).1 x.is).2
              have mn : Nonempty (Memb mS) := ⟨⟨((w.drewN m')).drew, (mh _).2 ⟨cc2, cc1⟩⟩⟩
              have mH := Lib.hid mh
              clear mh
              refine wp_region_mix [5, 11] (InS mS) (by kernel_rfl) (by kernel_rfl) (InS.mk ((mH.out _).2 ⟨cc2, cc1⟩)) ?_
              refine wpMix_seg 5 (by kernel_rfl) (by decide) ?_
              simp only [List.take_succ_cons, List.take_zero, List.drop_succ_cons, List.drop_zero]
              repeat (go_big_quiet_step (fail))
              refine wpQuiet_nil ?_
              refine wpMix_eff (by kernel_rfl) ?_
              go_wp2_with fail
              refine (R2.out _).mono ?_
              rintro e w3 ⟨rfl, rfl⟩
              go_wp2
              refine MixK.on (InS.mk ((mH.out _).2 ⟨cc2, cc1⟩)) ?_
              refine wpMix_seg 5 (by kernel_rfl) (by decide) ?_
              simp only [List.take_succ_cons, List.take_zero, List.drop_succ_cons, List.drop_zero]
              repeat (go_big_quiet_step (fail))
              refine wpQuiet_nil ?_
              refine wpMix_eff (by kernel_rfl) ?_
              go_wp2_with fail
              refine (R1.out _).mono ?_
              rintro e w3 ⟨rfl, rfl⟩
              go_wp2
              refine MixK.on (InS.mk ((mH.out _).2 ⟨cc2, cc1⟩)) ?_
              refine wpMix_seg 1 (by kernel_rfl) (by decide) ?_
              simp only [List.take_succ_cons, List.take_zero, List.drop_succ_cons, List.drop_zero]
              repeat (go_big_quiet_step (fail))
              refine wpQuiet_nil ?_
              refine wpMix_nil ?_
              clear mk0 mk1 mn mH
              go_wp2
              go_ret
              exact ⟨ret_bool FIN.out.symm, m' + 1, rfl⟩
            · have q1 : decide (y1 < y2) = false := decide_eq_false hb
              have q2 : decide ((y1 : Int) < y2) = false := decide_eq_false (by omega)
              have HB := Lib.hid hb
              clear hb
              go_wp2
              obtain ⟨mS, mh⟩ : ∃ S : World → Prop, ∀ w', S w' ↔ (w'.cell? ⟨b2, o2 + k, none⟩ = some (.int .u8 x2) ∧ w'.cell? ⟨b1, o1 + k, none⟩ = some (.int .u8 x1)) := ⟨_, fun _ => Iff.rfl⟩
              have mk0 : ∀ x : Memb mS, x.at_.cell? ⟨b2, o2 + k, none⟩ = some (.int .u8 x2) := fun x => ((mh _).1 x.is).1
              have mk1 : ∀ x : Memb mS, x.at_.cell? ⟨b1, o1 + k, none⟩ = some (.int .u8 x1) := fun x => ((mh _).1 x.is).2
              have mn : Nonempty (Memb mS) := ⟨⟨((w.drewN m')).drew, (mh _).2 ⟨cc2, cc1⟩⟩⟩
              have mH := Lib.hid mh
              clear mh
              refine wp_region_mix [5, 11] (InS mS) (by kernel_rfl) (by kernel_rfl) (InS.mk ((mH.out _).2 ⟨cc2, cc1⟩)) ?_
              refine wpMix_seg 5 (by kernel_rfl) (by decide) ?_
              simp only [List.take_succ_cons, List.take_zero, List.drop_succ_cons, List.drop_zero]
              repeat (go_big_quiet_step (fail))
              refine wpQuiet_nil ?_
              refine wpMix_eff (by kernel_rfl) ?_
              go_wp2_with fail
              refine (R2.out _).mono ?_
              rintro e w3 ⟨rfl, rfl⟩
              go_wp2
              refine MixK.on (InS.mk ((mH.out _).2 ⟨cc2, cc1⟩)) ?_
              refine wpMix_seg 5 (by kernel_rfl) (by decide) ?_
              simp only [List.take_succ_cons, List.take_zero, List.drop_succ_cons, List.drop_zero]
              repeat (go_big_quiet_step (fail))
              refine wpQuiet_nil ?_
              refine wpMix_eff (by kernel_rfl) ?_
              go_wp2_with fail
              refine (R1.out _).mono ?_
              rintro e w3 ⟨rfl, rfl⟩
              go_wp2
              refine MixK.on (InS.mk ((mH.out _).2 ⟨cc2, cc1⟩)) ?_
              refine wpMix_seg 1 (by kernel_rfl) (by decide) ?_
              simp only [List.take_succ_cons, List.take_zero, List.drop_succ_cons, List.drop_zero]
              repeat (go_big_quiet_step (fail))
              refine wpQuiet_nil ?_
              refine wpMix_nil ?_
              clear mk0 mk1 mn mH
              go_wp2
              go_roundw
              case rel =>
                refine ⟨q + 1, m' + 1, by omega, by go_num, rfl, fun t ht => ?_⟩
                by_cases e : t = q
                · subst e; rw [hy1.out, hy2.out]; have := HB.out; omega
                · exact HI.out t (by omega)
              case measure => simp [intOf]; omega
          · obtain rfl : q = 8 := by omega
            clear h8 hq
            go_wp2
            go_roundw
            case rel =>
              refine ⟨k + 1, m', by omega, by go_num, rfl, fun i hi => ?_⟩
              by_cases e : i = k
              · subst e
                rw [G1.out, G2.out, Int.toNat_natCast, Int.toNat_natCast]
                exact (byte_bits hx2).2 HI.out
              · exact HA.out i (by omega)
            case measure => simp [intOf]; omega
      · have fin : canN os ns = true := CI.out.2 ⟨by have l1 := H1.out.len; have l2 := H2.out.len; omega, fun i => by
          by_cases hi : i < k
          · exact HA.out i hi
          · have l2 := H2.out.len
            have e1 : ns.getD i 0 = 0 := by simp [List.getD, List.getElem?_eq_none (show ns.length ≤ i by omega)]
            rw [e1]; simp⟩
        have FIN := Lib.hid fin
        clear fin
        go_wp2
        go_ret
        exact ⟨ret_bool FIN.out.symm, m, rfl⟩
  · have e1 : ((n1 : Int) != n2) = true := by simp; omega
    have fin : canN os ns = false := by
      simp only [canN, decide_eq_false_iff_not]
      have l1 := h1.len
      have l2 := h2.len
      intro h; exact hn (by omega)
    rw [fin]
    clear fin h1 h2 hn
    go_enter Try.func96, Try.ntmps96
    go_wp2
    go_ret
    exact ⟨rfl, 0, rfl⟩
end Go.Proofs.Ytngofnlhbhfigaa
