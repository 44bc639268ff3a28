/- The law NorOrder walked to the value true. -/
import Derived.Test.YtmpijfehmngmgaaNor2
namespace Go.Proofs.Ytmpijfehmngmgaa
open Go.RowKit

/-! ### The plain law: what can be programmed goes one way. -/
theorem andNot_zero (a b : Nat) (ha : a < 256) (hb : b < 256) : a &&& (255 - b) = 0 ↔ a &&& b = a := by
  have e : ∀ i, (255 - b).testBit i = (decide (i < 8) && !b.testBit i) := fun i => by
    have := Nat.testBit_two_pow_sub_succ (x := b) (n := 8) hb i
    rwa [show 2 ^ 8 - (b + 1) = 255 - b by omega] at this
  have ha8 : ∀ i, a.testBit i = true → i < 8 := fun i hi => by
    rcases Nat.lt_or_ge i 8 with h | h
    · exact h
    · rw [Nat.testBit_lt_two_pow (Nat.lt_of_lt_of_le ha (by have := Nat.pow_le_pow_right (show 0 < 2 by decide) h; simpa using this))] at hi; cases hi
  constructor
  · intro h
    apply Nat.eq_of_testBit_eq
    intro i
    have h2 : (a &&& (255 - b)).testBit i = false := by rw [h]; simp
    rw [Nat.testBit_and, e] at h2
    rw [Nat.testBit_and]
    cases hai : a.testBit i
    · simp
    · have := ha8 i hai
      simpa [hai, this] using h2
  · intro h
    apply Nat.eq_of_testBit_eq
    intro i
    have h2 : (a &&& b).testBit i = a.testBit i := by rw [h]
    rw [Nat.testBit_and] at h2
    rw [Nat.testBit_and, e]
    cases hai : a.testBit i
    · simp
    · rw [hai] at h2
      have : b.testBit i = true := by simpa using h2
      simp [this]
theorem bits_andNot_zero (a b : Int) (ha : 0 ≤ a ∧ a ≤ 255) (hb : 0 ≤ b ∧ b ≤ 255) : bits .andNot .u8 a b = 0 ↔ a.toNat &&& b.toNat = a.toNat := by
  rw [u8_andNot a b ha.1 (by omega) hb.1 (by omega)]
  have := andNot_zero a.toNat b.toNat (by omega) (by omega)
  constructor
  · intro h; exact this.1 (by omega)
  · intro h; have := this.2 h; omega
theorem canN_iff {os ns : List Int} (ho : ∀ z ∈ os, 0 ≤ z ∧ z ≤ 255) (hn : ∀ z ∈ ns, 0 ≤ z ∧ z ≤ 255) :
    canN os ns = true ↔ os.length = ns.length ∧ ∀ i, (ns.getD i 0).toNat &&& (os.getD i 0).toNat = (ns.getD i 0).toNat := by
  simp only [canN, decide_eq_true_eq]
  constructor
  · rintro ⟨h1, h2⟩
    refine ⟨h1, fun i => ?_⟩
    by_cases hi : i < os.length
    · exact (bits_andNot_zero _ _ (byte_getD hn i) (byte_getD ho i)).1 (h2 i hi)
    · have e1 : ns.getD i 0 = 0 := by simp [List.getD, List.getElem?_eq_none (show ns.length ≤ i by omega)]
      rw [e1]; simp
  · rintro ⟨h1, h2⟩
    exact ⟨h1, fun i _ => (bits_andNot_zero _ _ (byte_getD hn i) (byte_getD ho i)).2 (h2 i)⟩
theorem canN_refl {os : List Int} (ho : ∀ z ∈ os, 0 ≤ z ∧ z ≤ 255) : canN os os = true := (canN_iff ho ho).2 ⟨rfl, fun i => Nat.and_self _⟩
theorem canN_anti {os ns : List Int} (ho : ∀ z ∈ os, 0 ≤ z ∧ z ≤ 255) (hn : ∀ z ∈ ns, 0 ≤ z ∧ z ≤ 255) (h1 : canN os ns = true) (h2 : canN ns os = true) : os = ns := by
  obtain ⟨l1, h1⟩ := (canN_iff ho hn).1 h1
  obtain ⟨_, h2⟩ := (canN_iff hn ho).1 h2
  apply List.ext_getElem?
  intro i
  by_cases hi : i < os.length
  · have e : (os.getD i 0).toNat = (ns.getD i 0).toNat := by
      have a1 := h1 i
      have a2 := h2 i
      rw [Nat.and_comm] at a2
      omega
    have b1 := byte_getD ho i
    have b2 := byte_getD hn i
    have : os.getD i 0 = ns.getD i 0 := by omega
    rw [getD_get 0 hi, getD_get 0 (show i < ns.length by omega)] at this
    rw [List.getElem?_eq_getElem hi, List.getElem?_eq_getElem (show i < ns.length by omega), this]
  · rw [List.getElem?_eq_none (by omega), List.getElem?_eq_none (by omega)]
theorem canN_trans {zs bs cs : List Int} (ha : ∀ z ∈ zs, 0 ≤ z ∧ z ≤ 255) (hb : ∀ z ∈ bs, 0 ≤ z ∧ z ≤ 255) (hc : ∀ z ∈ cs, 0 ≤ z ∧ z ≤ 255) (h1 : canN zs bs = true) (h2 : canN bs cs = true) : canN zs cs = true := by
  obtain ⟨l1, h1⟩ := (canN_iff ha hb).1 h1
  obtain ⟨l2, h2⟩ := (canN_iff hb hc).1 h2
  refine (canN_iff ha hc).2 ⟨by omega, fun i => ?_⟩
  rw [← h2 i, Nat.and_assoc, h1 i]

/-! ### The law's walk -/
/-- A bool is told, and nothing has changed that was there when the law began. -/
def ToldB (b : Bool) (W : World) (e : Ending) (w' : World) : Prop := e = .returned (.bool b) ∧ Hid (Below W.heap.size W w')
theorem told_below {W w : World} {b : Bool} {f : FuncId} {args : Array Value} (hb : Below W.heap.size W w) (h : Calls Try.prog f args w (Told b w)) : Calls Try.prog f args w (ToldB b W) :=
  h.mono fun _ _ ⟨h1, m, h2⟩ => ⟨h1, by rw [h2]; exact below_drewN hb m⟩
theorem same_below {W w : World} {b : Bool} {f : FuncId} {args : Array Value} (hb : Below W.heap.size W w) (h : Calls Try.prog f args w fun e w' => e = .returned (.bool b) ∧ w = w') : Calls Try.prog f args w (ToldB b W) :=
  h.mono fun _ _ ⟨h1, h2⟩ => ⟨h1, by rw [← h2]; exact hb⟩
theorem bs_below {W w : World} {A : Option Addr} {n cap : Nat} {zs : List Int} (h : Bs W A n cap zs) (hb : Below W.heap.size W w) : Bs w A n cap zs :=
  h.later ⟨hb.os, hb.tape, hb.output, hb.size, fun k hk _ => hb.block k hk⟩
theorem alive1_b (W : World) : Calls Try.prog 38 #[] W (ToldB true W) := (alive1_any W).mono fun _ _ h => h


set_option maxRecDepth 100000 in
set_option maxHeartbeats 1600000 in
theorem order_any (A1 A2 A3 : Option Addr) (n1 c1 n2 c2 n3 c3 : Nat) (zs bs cs : List Int) (w : World) (h1 : Bs w A1 n1 c1 zs) (h2 : Bs w A2 n2 c2 bs) (h3 : Bs w A3 n3 c3 cs) :
    Calls Try.prog 3 #[.slice A1 n1 c1, .slice A2 n2 c2, .slice A3 n3 c3] w fun e w' => e = .returned (.bool true) ∧ Below w.heap.size w w' := by
  have b1 := h1.byte
  have b2 := h2.byte
  have b3 := h3.byte
  have SH := Lib.hid fun w' (hb : Below w.heap.size w w') => same_below hb (short_any A1 A2 A3 n1 c1 n2 c2 n3 c3 w')
  cases hs : shortB n1 n2 n3 with
  | false =>
    rw [hs] at SH
    clear hs
    go_enter Try.func3, Try.ntmps3
    go_wp2_with fail
    refine (alive1_b _).mono ?_
    rintro e w1 ⟨rfl, B1⟩
    go_wp2_with fail
    refine (SH.out _ B1.out).mono ?_
    rintro e w2 ⟨rfl, B2⟩
    go_wp2
    go_ret
    exact ⟨rfl, B2.out⟩
  | true =>
    rw [hs] at SH
    have CAA := Lib.hid fun w' (hb : Below w.heap.size w w') => told_below hb (can_any A1 A1 n1 c1 n1 c1 zs zs w' (bs_below h1 hb) (bs_below h1 hb))
    have CAB := Lib.hid fun w' (hb : Below w.heap.size w w') => told_below hb (can_any A1 A2 n1 c1 n2 c2 zs bs w' (bs_below h1 hb) (bs_below h2 hb))
    have CBA := Lib.hid fun w' (hb : Below w.heap.size w w') => told_below hb (can_any A2 A1 n2 c2 n1 c1 bs zs w' (bs_below h2 hb) (bs_below h1 hb))
    have CBC := Lib.hid fun w' (hb : Below w.heap.size w w') => told_below hb (can_any A2 A3 n2 c2 n3 c3 bs cs w' (bs_below h2 hb) (bs_below h3 hb))
    have CAC := Lib.hid fun w' (hb : Below w.heap.size w w') => told_below hb (can_any A1 A3 n1 c1 n3 c3 zs cs w' (bs_below h1 hb) (bs_below h3 hb))
    have S1 := Lib.hid fun w' (hb : Below w.heap.size w w') => run_str (bs_below h1 hb)
    have S2 := Lib.hid fun w' (hb : Below w.heap.size w w') => run_str (bs_below h2 hb)
    rw [canN_refl b1] at CAA
    have r1 : canN zs bs = true → canN bs zs = true → zs = bs := canN_anti b1 b2
    have r2 : canN zs bs = true → canN bs cs = true → canN zs cs = true := canN_trans b1 b2 b3
    have R1 := Lib.hid r1
    have R2 := Lib.hid r2
    clear r1 r2 b1 b2 b3 h1 h2 h3 hs
    cases hab : canN zs bs with
    | false =>
      rw [hab] at CAB
      clear hab R1 R2
      go_enter Try.func3, Try.ntmps3
      go_wp2_with fail
      refine (alive1_b _).mono ?_
      rintro e w1 ⟨rfl, B1⟩
      go_wp2_with fail
      refine (SH.out _ B1.out).mono ?_
      rintro e w2 ⟨rfl, B2⟩
      go_wp2_with fail
      refine (CAA.out _ B2.out).mono ?_
      rintro e w3 ⟨rfl, B3⟩
      go_wp2_with fail
      refine (CAB.out _ B3.out).mono ?_
      rintro e w4 ⟨rfl, B4⟩
      go_wp2_with fail
      refine (CAB.out _ B4.out).mono ?_
      rintro e w5 ⟨rfl, B5⟩
      go_wp2
      go_ret
      exact ⟨rfl, B5.out⟩
    | true =>
      rw [hab] at CAB
      cases hba : canN bs zs with
      | false =>
        rw [hba] at CBA
        cases hbc : canN bs cs with
        | false =>
          rw [hbc] at CBC
          clear hab hba hbc R1 R2
          go_enter Try.func3, Try.ntmps3
          go_wp2_with fail
          refine (alive1_b _).mono ?_
          rintro e w1 ⟨rfl, B1⟩
          go_wp2_with fail
          refine (SH.out _ B1.out).mono ?_
          rintro e w2 ⟨rfl, B2⟩
          go_wp2_with fail
          refine (CAA.out _ B2.out).mono ?_
          rintro e w3 ⟨rfl, B3⟩
          go_wp2_with fail
          refine (CAB.out _ B3.out).mono ?_
          rintro e w4 ⟨rfl, B4⟩
          go_wp2_with fail
          refine (CBA.out _ B4.out).mono ?_
          rintro e w5 ⟨rfl, B5⟩
          go_wp2_with fail
          refine (CAB.out _ B5.out).mono ?_
          rintro e w6 ⟨rfl, B6⟩
          go_wp2_with fail
          refine (CBC.out _ B6.out).mono ?_
          rintro e w7 ⟨rfl, B7⟩
          go_wp2
          go_ret
          exact ⟨rfl, B7.out⟩
        | true =>
          rw [hbc] at CBC
          rw [R2.out hab hbc] at CAC
          clear hab hba hbc R1 R2
          go_enter Try.func3, Try.ntmps3
          go_wp2_with fail
          refine (alive1_b _).mono ?_
          rintro e w1 ⟨rfl, B1⟩
          go_wp2_with fail
          refine (SH.out _ B1.out).mono ?_
          rintro e w2 ⟨rfl, B2⟩
          go_wp2_with fail
          refine (CAA.out _ B2.out).mono ?_
          rintro e w3 ⟨rfl, B3⟩
          go_wp2_with fail
          refine (CAB.out _ B3.out).mono ?_
          rintro e w4 ⟨rfl, B4⟩
          go_wp2_with fail
          refine (CBA.out _ B4.out).mono ?_
          rintro e w5 ⟨rfl, B5⟩
          go_wp2_with fail
          refine (CAB.out _ B5.out).mono ?_
          rintro e w6 ⟨rfl, B6⟩
          go_wp2_with fail
          refine (CBC.out _ B6.out).mono ?_
          rintro e w7 ⟨rfl, B7⟩
          go_wp2_with fail
          refine (CAC.out _ B7.out).mono ?_
          rintro e w8 ⟨rfl, B8⟩
          go_wp2
          go_ret
          exact ⟨rfl, B8.out⟩
      | true =>
        rw [hba] at CBA
        have e := R1.out hab hba
        cases hbc : canN bs cs with
        | false =>
          rw [hbc] at CBC
          clear hab hba hbc R1 R2
          go_enter Try.func3, Try.ntmps3
          go_wp2_with fail
          refine (alive1_b _).mono ?_
          rintro e w1 ⟨rfl, B1⟩
          go_wp2_with fail
          refine (SH.out _ B1.out).mono ?_
          rintro e w2 ⟨rfl, B2⟩
          go_wp2_with fail
          refine (CAA.out _ B2.out).mono ?_
          rintro e w3 ⟨rfl, B3⟩
          go_wp2_with fail
          refine (CAB.out _ B3.out).mono ?_
          rintro e w4 ⟨rfl, B4⟩
          go_wp2_with fail
          refine (CBA.out _ B4.out).mono ?_
          rintro e w5 ⟨rfl, B5⟩
          have s1 := S1.out _ B5.out
          have s2 := S2.out _ B5.out
          rw [← e] at s2
          go_wp2_with fail
          refine (CAB.out _ B5.out).mono ?_
          rintro e w6 ⟨rfl, B6⟩
          go_wp2_with fail
          refine (CBC.out _ B6.out).mono ?_
          rintro e w7 ⟨rfl, B7⟩
          go_wp2
          go_ret
          exact ⟨rfl, B7.out⟩
        | true =>
          rw [hbc] at CBC
          rw [R2.out hab hbc] at CAC
          clear hab hba hbc R1 R2
          go_enter Try.func3, Try.ntmps3
          go_wp2_with fail
          refine (alive1_b _).mono ?_
          rintro e w1 ⟨rfl, B1⟩
          go_wp2_with fail
          refine (SH.out _ B1.out).mono ?_
          rintro e w2 ⟨rfl, B2⟩
          go_wp2_with fail
          refine (CAA.out _ B2.out).mono ?_
          rintro e w3 ⟨rfl, B3⟩
          go_wp2_with fail
          refine (CAB.out _ B3.out).mono ?_
          rintro e w4 ⟨rfl, B4⟩
          go_wp2_with fail
          refine (CBA.out _ B4.out).mono ?_
          rintro e w5 ⟨rfl, B5⟩
          have s1 := S1.out _ B5.out
          have s2 := S2.out _ B5.out
          rw [← e] at s2
          go_wp2_with fail
          refine (CAB.out _ B5.out).mono ?_
          rintro e w6 ⟨rfl, B6⟩
          go_wp2_with fail
          refine (CBC.out _ B6.out).mono ?_
          rintro e w7 ⟨rfl, B7⟩
          go_wp2_with fail
          refine (CAC.out _ B7.out).mono ?_
          rintro e w8 ⟨rfl, B8⟩
          go_wp2
          go_ret
          exact ⟨rfl, B8.out⟩
end Go.Proofs.Ytmpijfehmngmgaa
