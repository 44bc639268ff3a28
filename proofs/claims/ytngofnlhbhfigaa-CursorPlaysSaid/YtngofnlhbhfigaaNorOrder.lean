/- The law NorOrder walked to the value true. -/
import Derived.Test.YtngofnlhbhfigaaNor2
namespace Go.Proofs.Ytngofnlhbhfigaa
open Go.RowKit

/-! ### The plain law: what can be programmed goes one way. -/
theorem andNot_zero (a b : Nat) (ha : a < 256) (hb : b < 256) : a &&& (255 - b) = 0 ↔ a &&& b = a := by
  have e : ∀ i, (255 - b).testBit i = (decide (i < 8) && !b.testBit i) := fun i => by
    have := Nat.testBit_two_pow_sub_succ (x := b) (n := 8) hb i
    rwa [show 2 ^ 8 - (b + 1) = 255 - b by omega] at this
  have ha8 : ∀ i, a.testBit i = true → i < 8 := fun i hi => by
    rcases Nat.lt_or_ge i 8 with h | h
    · exact h
    · rw [Nat.testBit_lt_two_pow (Nat.lt_of_lt_of_le ha (by have := Nat.pow_le_pow_right (show 0 < 2 by decide) h; simpa using this))] at hi; cases hi
  constructor
  · intro h
    apply Nat.eq_of_testBit_eq
    intro i
    have h2 : (a &&& (255 - b)).testBit i = false := by rw [h]; simp
    rw [Nat.testBit_and, e] at h2
    rw [Nat.testBit_and]
    cases hai : a.testBit i
    · simp
    · have := ha8 i hai
      simpa [hai, this] using h2
  · intro h
    apply Nat.eq_of_testBit_eq
    intro i
    have h2 : (a &&& b).testBit i = a.testBit i := by rw [h]
    rw [Nat.testBit_and] at h2
    rw [Nat.testBit_and, e]
    cases hai : a.testBit i
    · simp
    · rw [hai] at h2
      have : b.testBit i = true := by simpa using h2
      simp [this]
theorem bits_andNot_zero (a b : Int) (ha : 0 ≤ a ∧ a ≤ 255) (hb : 0 ≤ b ∧ b ≤ 255) : bits .andNot .u8 a b = 0 ↔ a.toNat &&& b.toNat = a.toNat := by
  rw [u8_andNot a b ha.1 (by omega) hb.1 (by omega)]
  have := andNot_zero a.toNat b.toNat (by omega) (by omega)
  constructor
  · intro h; exact this.1 (by omega)
  · intro h; have := this.2 h; omega
theorem canN_iff {os ns : List Int} (ho : ∀ z ∈ os, 0 ≤ z ∧ z ≤ 255) (hn : ∀ z ∈ ns, 0 ≤ z ∧ z ≤ 255) :
    canN os ns = true ↔ os.length = ns.length ∧ ∀ i, (ns.getD i 0).toNat &&& (os.getD i 0).toNat = (ns.getD i 0).toNat := by
  simp only [canN, decide_eq_true_eq]
  constructor
  · rintro ⟨h1, h2⟩
    refine ⟨h1, fun i => ?_⟩
    by_cases hi : i < os.length
    · exact (bits_andNot_zero _ _ (byte_getD hn i) (byte_getD ho i)).1 (h2 i hi)
    · have e1 : ns.getD i 0 = 0 := by simp [List.getD, List.getElem?_eq_none (show ns.length ≤ i by omega)]
      rw [e1]; simp
  · rintro ⟨h1, h2⟩
    exact ⟨h1, fun i _ => (bits_andNot_zero _ _ (byte_getD hn i) (byte_getD ho i)).2 (h2 i)⟩
theorem canN_refl {os : List Int} (ho : ∀ z ∈ os, 0 ≤ z ∧ z ≤ 255) : canN os os = true := (canN_iff ho ho).2 ⟨rfl, fun i => Nat.and_self _⟩
theorem canN_anti {os ns : List Int} (ho : ∀ z ∈ os, 0 ≤ z ∧ z ≤ 255) (hn : ∀ z ∈ ns, 0 ≤ z ∧ z ≤ 255) (h1 : canN os ns = true) (h2 : canN ns os = true) : os = ns := by
  obtain ⟨l1, h1⟩ := (canN_iff ho hn).1 h1
  obtain ⟨_, h2⟩ := (canN_iff hn ho).1 h2
  apply List.ext_getElem?
  intro i
  by_cases hi : i < os.length
  · have e : (os.getD i 0).toNat = (ns.getD i 0).toNat := by
      have a1 := h1 i
      have a2 := h2 i
      rw [Nat.and_comm] at a2
      omega
    have b1 := byte_getD ho i
    have b2 := byte_getD hn i
    have : os.getD i 0 = ns.getD i 0 := by omega
    rw [getD_get 0 hi, getD_get 0 (show i < ns.length by omega)] at this
    rw [List.getElem?_eq_getElem hi, List.getElem?_eq_getElem (show i < ns.length by omega), this]
  · rw [List.getElem?_eq_none (by omega), List.getElem?_eq_none (by omega)]
theorem canN_trans {zs bs cs : List Int} (ha : ∀ z ∈ zs, 0 ≤ z ∧ z ≤ 255) (hb : ∀ z ∈ bs, 0 ≤ z ∧ z ≤ 255) (hc : ∀ z ∈ cs, 0 ≤ z ∧ z ≤ 255) (h1 : canN zs bs = true) (h2 : canN bs cs = true) : canN zs cs = true := by
  obtain ⟨l1, h1⟩ := (canN_iff ha hb).1 h1
  obtain ⟨l2, h2⟩ := (canN_iff hb hc).1 h2
  refine (canN_iff ha hc).2 ⟨by omega, fun i => ?_⟩
  rw [← h2 i, Nat.and_assoc, h1 i]

/-! ### The law's walk -/
/-- A bool is told, and nothing has changed that was there when the law began. -/
def ToldB (b : Bool) (W : World) (e : Ending) (w' : World) : Prop := e = .returned (.bool b) ∧ Hid (Below W.heap.size W w')
theorem told_below {W w : World} {b : Bool} {f : FuncId} {args : Array Value} (hb : Below W.heap.size W w) (h : Calls Try.prog f args w (Told b w)) : Calls Try.prog f args w (ToldB b W) :=
  h.mono fun _ _ ⟨h1, m, h2⟩ => ⟨h1, by rw [h2]; exact below_drewN hb m⟩
theorem same_below {W w : World} {b : Bool} {f : FuncId} {args : Array Value} (hb : Below W.heap.size W w) (h : Calls Try.prog f args w fun e w' => e = .returned (.bool b) ∧ w = w') : Calls Try.prog f args w (ToldB b W) :=
  h.mono fun _ _ ⟨h1, h2⟩ => ⟨h1, by rw [← h2]; exact hb⟩
theorem bs_below {W w : World} {A : Option Addr} {n cap : Nat} {zs : List Int} (h : Bs W A n cap zs) (hb : Below W.heap.size W w) : Bs w A n cap zs :=
  h.later ⟨hb.os, hb.tape, hb.output, hb.size, fun k hk _ => hb.block k hk⟩


end Go.Proofs.Ytngofnlhbhfigaa
