
/- The walks of a coder's Tree, of both the program's and the reference's; what a tree's number comes to. -/
import Derived.Test.YtnanbnaikmaljaaLzPXCodMath
import Derived.Test.YtnanbnaikmaljaaLzPa
namespace Go.Proofs.Ytnanbnaikmaljaa
open Go.RowKit

def cBitS (s : CSt) (p bit : Int) : CSt := ⟨cBitL s.l s.w p bit, cBitW s.w p bit⟩
structure TSt where
  c : CSt
  ps : List Int
  node : Int
def vbit (v : Nat) (i : Nat) : Int := ((v / 2 ^ i % 2 : Nat) : Int)
def tStep (v : Nat) (i : Nat) (t : TSt) : TSt := ⟨cBitS t.c (atN t.ps t.node) (vbit v i), turnN t.ps t.node (vbit v i), 2 * t.node + vbit v i⟩
/-- The bits of v from the j-th on down. -/
def tRun (v : Nat) : Nat → TSt → TSt
  | 0, t => t
  | i + 1, t => tRun v i (tStep v i t)
theorem cBitS_w (s : CSt) (p bit : Int) (h0 : 16777216 ≤ s.w) (h1 : s.w < 4294967296) : 16777216 ≤ (cBitS s p bit).w ∧ (cBitS s p bit).w < 4294967296 := by
  have a1 := hold_lo p
  have a2 := hold_hi p
  have h3 : 8192 ≤ s.w / 2048 := by omega
  have h4 : s.w / 2048 * hold p ≤ s.w / 2048 * 2017 := Int.mul_le_mul_of_nonneg_left a2 (by omega)
  have h5 : s.w / 2048 * 31 ≤ s.w / 2048 * hold p := Int.mul_le_mul_of_nonneg_left a1 (by omega)
  have g3 := strW_wide (cBd s.w p) (by unfold cBd; omega)
  have g4 := strW_bd (cBd s.w p) (by unfold cBd; omega) (by unfold cBd; omega)
  have g5 := strW_wide (s.w - cBd s.w p) (by unfold cBd; omega)
  have g6 := strW_bd (s.w - cBd s.w p) (by unfold cBd; omega) (by unfold cBd; omega)
  unfold cBitS cBitW
  simp only
  split
  · exact ⟨g3, g4.2.1⟩
  · exact ⟨g5, g6.2.1⟩
theorem cBitS_len (s : CSt) (p bit : Int) : (cBitS s p bit).l.length ≤ s.l.length + 1 := by
  unfold cBitS cBitL
  have h3 := cStrL_le s.l (cBd s.w p)
  have h4 := cStrL_le (addL s.l (cBd s.w p)) (s.w - cBd s.w p)
  rw [addL_length] at h4
  simp only
  split <;> omega
/-- A tree's chances as they always are. -/
def TOk (ps : List Int) (n : Nat) : Prop := ps.length = 2 ^ n ∧ 1 ≤ n ∧ n ≤ 8 ∧ (∀ i, 1 ≤ i → i < ps.length → 31 ≤ ps.getD i 0) ∧ InRange ps
theorem TOk.turn {ps : List Int} {n : Nat} (h : TOk ps n) (node bit : Int) : TOk (turnN ps node bit) n := by
  obtain ⟨h1, h2, h3, h4, h5⟩ := h
  refine ⟨by rw [turnN_length]; exact h1, h2, h3, fun i hi hl => ?_, h5.turn node bit⟩
  rw [turnN_length] at hl
  unfold turnN
  split
  · rw [getD_set]
    split
    · exact adapt_lo _ _
    · exact h4 i hi hl
  · exact h4 i hi hl
theorem TOk.le {ps : List Int} {n : Nat} (h : TOk ps n) : ps.length ≤ 256 := by rw [h.1]; exact pow_le_256 h.2.2.1
theorem TOk.new (bits : Int) : TOk (List.replicate (2 ^ szN bits) 1024) (szN bits) :=
  ⟨by simp, szN_lo _, szN_hi _, fun i _ hl => by
    rw [List.length_replicate] at hl
    simp [List.getD, List.getElem?_replicate, hl], rep_range _⟩

/-- What holds of the coder and the tree within Tree's loop: j bits are left. -/
structure TLoop (v n j : Nat) (t fin : TSt) (len : Nat) : Prop where
  run : tRun v j t = fin
  le : j ≤ n
  node0 : 1 ≤ t.node
  node1 : t.node < ((2 ^ (n + 1 - j) : Nat) : Int)
  ok : TOk t.ps n
  w0 : 16777216 ≤ t.c.w
  w1 : t.c.w < 4294967296
  len : t.c.l.length + j ≤ len
theorem vbit_bd (v i : Nat) : 0 ≤ vbit v i ∧ vbit v i ≤ 1 := by unfold vbit; omega
theorem TLoop.step {v n i : Nat} {t fin : TSt} {len : Nat} (h : TLoop v n (i + 1) t fin len) : TLoop v n i (tStep v i t) fin len := by
  have hb := vbit_bd v i
  have hle := h.le
  refine ⟨h.run, by omega, ?_, ?_, h.ok.turn _ _, (cBitS_w _ _ _ h.w0 h.w1).1, (cBitS_w _ _ _ h.w0 h.w1).2, ?_⟩
  · have := h.node0
    show 1 ≤ 2 * t.node + vbit v i
    omega
  · have h1 := h.node1
    show 2 * t.node + vbit v i < ((2 ^ (n + 1 - i) : Nat) : Int)
    have e : n + 1 - i = (n + 1 - (i + 1)) + 1 := by omega
    rw [e, Nat.pow_succ]
    omega
  · have := h.len
    have := cBitS_len t.c (atN t.ps t.node) (vbit v i)
    show (cBitS t.c (atN t.ps t.node) (vbit v i)).l.length + i ≤ len
    omega
theorem TLoop.node {v n i : Nat} {t fin : TSt} {len : Nat} (h : TLoop v n (i + 1) t fin len) : t.node < t.ps.length ∧ t.node < 256 := by
  have h1 := h.node1
  have h2 : 2 ^ (n + 1 - (i + 1)) ≤ 2 ^ n := Nat.pow_le_pow_right (by decide) (by omega)
  have h3 := pow_le_256 h.ok.2.2.1
  rw [h.ok.1]
  omega
theorem TLoop.start {s : CSt} {ps : List Int} {n : Nat} (v : Nat) (ok : TOk ps n) (h0 : 16777216 ≤ s.w) (h1 : s.w < 4294967296) : TLoop v n n ⟨s, ps, 1⟩ (tRun v n ⟨s, ps, 1⟩) (s.l.length + n) :=
  ⟨rfl, Nat.le_refl _, by simp, by simp only; rw [show n + 1 - n = 1 by omega]; decide, ok, h0, h1, by simp⟩
theorem bit_of (v i : Nat) (hv : v < 256) : bits .and .i64 ((v : Int) / 2 ^ i) 1 = vbit v i := by
  have e : (v : Int) / 2 ^ i = ((v / 2 ^ i : Nat) : Int) := by simp
  have hle : v / 2 ^ i ≤ v := Nat.div_le_self _ _
  rw [e]
  unfold vbit
  exact i64_and_one _ (by omega)

set_option maxRecDepth 100000 in
theorem at_none (node : Int) (w : World) : Calls Try.prog 72 #[.pointer none, .int .i64 node] w fun e w' => e = .returned (.int .i64 0) ∧ w = w' := by
  have HH : Hid (Calls Try.prog 78 #[.pointer none, .int .i64 node] w fun e w' => e = .returned (.bool false) ∧ w = w') := by
    show Calls _ _ _ _ _
    go_enter Try.func78, Try.ntmps78
    go_wp2
    go_ret
    exact ⟨rfl, rfl⟩
  go_enter Try.func72, Try.ntmps72
  go_wp2_with (go_at_call 78; refine HH.out.mono ?_; rintro e w' ⟨rfl, rfl⟩)
  go_ret
  exact ⟨rfl, rfl⟩
end Go.Proofs.Ytnanbnaikmaljaa
