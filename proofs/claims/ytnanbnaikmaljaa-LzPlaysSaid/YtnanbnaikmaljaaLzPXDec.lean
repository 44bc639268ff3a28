
/- The walks of package decoder and of the reference's decoder. -/
import Derived.Test.YtnanbnaikmaljaaLzPXModel
import Derived.Test.YtnanbnaikmaljaaLzPXModel2
import Derived.Test.YtnanbnaikmaljaaLzPa
import Derived.Laws.BitsAllLaws
namespace Go.Proofs.Ytnanbnaikmaljaa
open Go.RowKit

/-- A decoder: code, width, need. -/
structure DSt where
  c : Int
  w : Int
  n : Int
def DAt (w : World) (b : Nat) (T : TypeId) (s : DSt) : Prop := Blk w b [.int .u64 s.c, .int .u64 s.w, .int .i64 s.n] T
/-- What holds of each decoder. -/
structure DInv (s : DSt) : Prop where
  c0 : 0 ≤ s.c
  c1 : s.c < 4294967296
  w0 : 0 < s.w
  w1 : s.w < 4294967296
  n0 : 0 ≤ s.n
  n4 : s.n ≤ 4
  a4 : s.n = 4 → s.c = 0
  a3 : s.n = 3 → s.c < 256
  a2 : s.n = 2 → s.c < 65536
  a1 : s.n = 1 → s.c < 16777216
def strW (w : Int) : Int := if w < 16777216 then w * 256 else w
def strN (w n : Int) : Int := if w < 16777216 then 1 else n
def dLostB (s : DSt) : Bool := decide (s.n = 0 ∧ s.w ≤ s.c)
def dMayB (s : DSt) : Bool := decide (s.n = 0 ∧ s.c < s.w)
def dCleanB (s : DSt) : Bool := decide (s.n = 0 ∧ s.c = 0)
def dNeedB (s : DSt) : Bool := decide (0 < s.n)
def dByteS (s : DSt) (z : Int) : DSt := if 0 < s.n then ⟨s.c * 256 + z, s.w, s.n - 1⟩ else s
/-- A bit: code below bound or not. -/
def splB (s : DSt) (bound : Int) : Int := if s.c < bound then 0 else 1
def splS (s : DSt) (bound above : Int) : DSt := if s.c < bound then ⟨s.c, strW bound, strN bound s.n⟩ else ⟨s.c - bound, strW above, strN above s.n⟩
def dBound (s : DSt) (p : Int) : Int := s.w / 2048 * hold p
def dBitB (s : DSt) (p : Int) : Int := if dMayB s = true then splB s (dBound s p) else 0
def dBitP (s : DSt) (p : Int) : Int := if dMayB s = true then adapt p (splB s (dBound s p)) else hold p
def dBitS (s : DSt) (p : Int) : DSt := if dMayB s = true then splS s (dBound s p) (s.w - dBound s p) else s
def dHalfB (s : DSt) : Int := if dMayB s = true then splB s (s.w / 2) else 0
def dHalfS (s : DSt) : DSt := if dMayB s = true then splS s (s.w / 2) (s.w / 2) else s

theorem DInv.new : DInv ⟨0, 4294967295, 4⟩ := ⟨by decide, by decide, by decide, by decide, by decide, by decide, fun _ => rfl, fun _ => by decide, fun _ => by decide, fun _ => by decide⟩
theorem DInv.byte {s : DSt} (h : DInv s) (z : Int) (hz : 0 ≤ z ∧ z ≤ 255) : DInv (dByteS s z) := by
  obtain ⟨c, w, n⟩ := s
  obtain ⟨h0, h1, h2, h3, h4, h5, h6, h7, h8, h9⟩ := h
  simp only at *
  unfold dByteS
  split
  · simp only at *
    constructor <;> simp only <;> (try omega)
  · exact ⟨h0, h1, h2, h3, h4, h5, h6, h7, h8, h9⟩
theorem strW_bd (w : Int) (h0 : 0 < w) (h1 : w < 4294967296) : 0 < strW w ∧ strW w < 4294967296 ∧ w ≤ strW w := by
  unfold strW; split <;> omega
theorem DInv.spl {s : DSt} (h : DInv s) (hm : dMayB s = true) (bound above : Int) (h1 : 0 < bound) (h2 : bound < 4294967296) (h3 : 0 < above) (h4 : above < 4294967296) (h5 : s.c - bound ≤ above) : DInv (splS s bound above) := by
  obtain ⟨c, w, n⟩ := s
  obtain ⟨k0, k1, k2, k3, k4, k5, k6, k7, k8, k9⟩ := h
  simp only [dMayB, decide_eq_true_eq] at *
  unfold splS
  split
  · simp only at *
    have := strW_bd bound h1 h2
    constructor <;> simp only [strN] <;> (try split) <;> omega
  · simp only at *
    have := strW_bd above h3 h4
    constructor <;> simp only [strN] <;> (try split) <;> omega
theorem dBound_bd {s : DSt} (h : DInv s) (hw : 16777216 ≤ s.w) (p : Int) : 0 < dBound s p ∧ dBound s p < s.w := by
  have h1 := hold_lo p
  have h2 := hold_hi p
  have h3 : 0 < s.w / 2048 := by omega
  have h4 : s.w / 2048 * 2048 ≤ s.w := by omega
  unfold dBound
  refine ⟨Int.mul_pos h3 (by omega), ?_⟩
  have h5 : s.w / 2048 * hold p ≤ s.w / 2048 * 2017 := Int.mul_le_mul_of_nonneg_left h2 (by omega)
  omega

/-- A decoder as it always is. -/
structure DOk (s : DSt) : Prop where
  inv : DInv s
  wide : 16777216 ≤ s.w
theorem DOk.new : DOk ⟨0, 4294967295, 4⟩ := ⟨DInv.new, by decide⟩
theorem DOk.byte {s : DSt} (h : DOk s) (z : Int) (hz : 0 ≤ z ∧ z ≤ 255) : DOk (dByteS s z) := ⟨h.inv.byte z hz, by
  have := h.wide; unfold dByteS; split <;> exact this⟩
theorem strW_wide (w : Int) (h : 65536 ≤ w) : 16777216 ≤ strW w := by unfold strW; split <;> omega
theorem DOk.spl {s : DSt} (h : DOk s) (hm : dMayB s = true) (bound above : Int) (h1 : 65536 ≤ bound) (h2 : bound < 4294967296) (h3 : 65536 ≤ above) (h4 : above < 4294967296) (h5 : s.c - bound ≤ above) : DOk (splS s bound above) := by
  refine ⟨h.inv.spl hm bound above (by omega) h2 (by omega) h4 h5, ?_⟩
  unfold splS
  split
  · exact strW_wide _ h1
  · exact strW_wide _ h3
theorem dBound_lo {s : DSt} (h : DOk s) (p : Int) : 65536 ≤ dBound s p ∧ 65536 ≤ s.w - dBound s p := by
  have h0 := h.wide
  have a1 := hold_lo p
  have a2 := hold_hi p
  have h3 : 8192 ≤ s.w / 2048 := by omega
  have h4 : s.w / 2048 * hold p ≤ s.w / 2048 * 2017 := Int.mul_le_mul_of_nonneg_left a2 (by omega)
  have h5 : s.w / 2048 * 31 ≤ s.w / 2048 * hold p := Int.mul_le_mul_of_nonneg_left a1 (by omega)
  unfold dBound
  omega
theorem DOk.bit {s : DSt} (h : DOk s) (p : Int) : DOk (dBitS s p) := by
  unfold dBitS
  split
  · rename_i hm
    have := dBound_lo h p
    have h1 := h.inv.w1
    have hm' : s.n = 0 ∧ s.c < s.w := by simpa [dMayB] using hm
    exact h.spl hm _ _ this.1 (by omega) this.2 (by omega) (by omega)
  · exact h
theorem DOk.half {s : DSt} (h : DOk s) : DOk (dHalfS s) := by
  unfold dHalfS
  split
  · rename_i hm
    have h0 := h.wide
    have h1 := h.inv.w1
    have hm' : s.n = 0 ∧ s.c < s.w := by simpa [dMayB] using hm
    exact h.spl hm _ _ (by omega) (by omega) (by omega) (by omega) (by omega)
  · exact h

theorem DAt.keeps {w w' : World} {S : Nat → Prop} {b : Nat} {T : TypeId} {s : DSt} (h : DAt w b T s) (hk : Keeps S w w') (hn : ¬ S b) : DAt w' b T s := hk.blk h hn
theorem DAt.drewN {w : World} {b : Nat} {T : TypeId} {s : DSt} (h : DAt w b T s) (n : Nat) : DAt (w.drewN n) b T s := h
theorem DAt.drew {w : World} {b : Nat} {T : TypeId} {s : DSt} (h : DAt w b T s) : DAt w.drew b T s := h

set_option maxHeartbeats 400000 in
theorem dnew_any (w : World) : Calls Try.prog 29 #[] w fun e w' => e = .returned (.pointer (some ⟨w.heap.size, 0, none⟩)) ∧ DAt w' w.heap.size 86 ⟨0, 4294967295, 4⟩ ∧ Keeps None w w' := by
  go_enter Try.func29, Try.ntmps29
  go_wp2
  go_ret
  exact ⟨rfl, Blk.new _ _ _, (Keeps.refl _ _).alloc _⟩
set_option maxHeartbeats 400000 in
theorem rdnew_any (w : World) : Calls Try.prog 32 #[] w fun e w' => e = .returned (.pointer (some ⟨w.heap.size, 0, none⟩)) ∧ DAt w' w.heap.size 79 ⟨0, 4294967295, 4⟩ ∧ Keeps None w w' := by
  go_enter Try.func32, Try.ntmps32
  go_wp2
  go_ret
  exact ⟨rfl, Blk.new _ _ _, (Keeps.refl _ _).alloc _⟩

set_option maxHeartbeats 400000 in
theorem dneed_any (b : Nat) (s : DSt) (w : World) (h : DAt w b 86 s) :
    Calls Try.prog 34 #[.pointer (some ⟨b, 0, none⟩)] w fun e w' => e = .returned (.bool (dNeedB s)) ∧ w = w' := by
  obtain ⟨c, wd, n⟩ := s
  have c2 := Blk.cellD h 2 _ rfl
  simp only at c2
  clear h
  go_enter Try.func34, Try.ntmps34
  go_wp2
  go_ret
  exact ⟨rfl, rfl⟩

set_option maxRecDepth 100000 in
set_option maxHeartbeats 400000 in
theorem dlost_any (b : Nat) (s : DSt) (w : World) (h : DAt w b 86 s) :
    Calls Try.prog 36 #[.pointer (some ⟨b, 0, none⟩)] w fun e w' => e = .returned (.bool (dLostB s)) ∧ ∃ n, w' = w.drewN n := by
  obtain ⟨c, wd, n⟩ := s
  have c0 := Blk.cellD h 0 _ rfl
  have c1 := Blk.cellD h 1 _ rfl
  have c2 := Blk.cellD h 2 _ rfl
  simp only at c0 c1 c2
  clear h
  by_cases hn : n = 0
  · subst hn
    go_enter Try.func36, Try.ntmps36
    go_wp2
    go_quiet (fail)
    go_wp2
    go_ret
    exact ⟨ret_bool (by simp [dLostB]), _, rfl⟩
  · have q1 : (n == 0) = false := by simpa using hn
    have q2 : dLostB ⟨c, wd, n⟩ = false := by simp [dLostB, hn]
    rw [q2]
    clear q2 hn
    go_enter Try.func36, Try.ntmps36
    go_wp2
    go_quiet (fail)
    go_wp2
    go_ret
    exact ⟨rfl, _, rfl⟩
set_option maxRecDepth 100000 in
set_option maxHeartbeats 400000 in
theorem dmay_any (b : Nat) (s : DSt) (w : World) (h : DAt w b 86 s) :
    Calls Try.prog 75 #[.pointer (some ⟨b, 0, none⟩)] w fun e w' => e = .returned (.bool (dMayB s)) ∧ ∃ n, w' = w.drewN n := by
  obtain ⟨c, wd, n⟩ := s
  have c0 := Blk.cellD h 0 _ rfl
  have c1 := Blk.cellD h 1 _ rfl
  have c2 := Blk.cellD h 2 _ rfl
  simp only at c0 c1 c2
  clear h
  by_cases hn : n = 0
  · subst hn
    go_enter Try.func75, Try.ntmps75
    go_wp2
    go_quiet (fail)
    go_wp2
    go_ret
    exact ⟨ret_bool (by simp [dMayB]), _, rfl⟩
  · have q1 : (n == 0) = false := by simpa using hn
    have q2 : dMayB ⟨c, wd, n⟩ = false := by simp [dMayB, hn]
    rw [q2]
    clear q2 hn
    go_enter Try.func75, Try.ntmps75
    go_wp2
    go_quiet (fail)
    go_wp2
    go_ret
    exact ⟨rfl, _, rfl⟩
set_option maxRecDepth 100000 in
set_option maxHeartbeats 400000 in
theorem rdlost_any (b : Nat) (s : DSt) (w : World) (h : DAt w b 79 s) :
    Calls Try.prog 41 #[.pointer (some ⟨b, 0, none⟩)] w fun e w' => e = .returned (.bool (dLostB s)) ∧ ∃ n, w' = w.drewN n := by
  obtain ⟨c, wd, n⟩ := s
  have c0 := Blk.cellD h 0 _ rfl
  have c1 := Blk.cellD h 1 _ rfl
  have c2 := Blk.cellD h 2 _ rfl
  simp only at c0 c1 c2
  clear h
  by_cases hn : n = 0
  · subst hn
    go_enter Try.func41, Try.ntmps41
    go_wp2
    go_quiet (fail)
    go_wp2
    go_ret
    exact ⟨ret_bool (by simp [dLostB]), _, rfl⟩
  · have q1 : (n == 0) = false := by simpa using hn
    have q2 : dLostB ⟨c, wd, n⟩ = false := by simp [dLostB, hn]
    rw [q2]
    clear q2 hn
    go_enter Try.func41, Try.ntmps41
    go_wp2
    go_quiet (fail)
    go_wp2
    go_ret
    exact ⟨rfl, _, rfl⟩
set_option maxRecDepth 100000 in
set_option maxHeartbeats 400000 in
theorem dclean_any (b : Nat) (s : DSt) (w : World) (h : DAt w b 86 s) :
    Calls Try.prog 51 #[.pointer (some ⟨b, 0, none⟩)] w fun e w' => e = .returned (.bool (dCleanB s)) ∧ w = w' := by
  obtain ⟨c, wd, n⟩ := s
  have c0 := Blk.cellD h 0 _ rfl
  have c2 := Blk.cellD h 2 _ rfl
  simp only at c0 c2
  clear h
  by_cases hn : n = 0
  · subst hn
    go_enter Try.func51, Try.ntmps51
    go_wp2
    go_ret
    exact ⟨ret_bool (by simp [dCleanB]; rfl), rfl⟩
  · have q1 : (n == 0) = false := by simpa using hn
    have q2 : dCleanB ⟨c, wd, n⟩ = false := by simp [dCleanB, hn]
    rw [q2]
    clear q2 hn
    go_enter Try.func51, Try.ntmps51
    go_wp2
    go_ret
    exact ⟨rfl, rfl⟩
set_option maxRecDepth 100000 in
set_option maxHeartbeats 400000 in
theorem rdclean_any (b : Nat) (s : DSt) (w : World) (h : DAt w b 79 s) :
    Calls Try.prog 42 #[.pointer (some ⟨b, 0, none⟩)] w fun e w' => e = .returned (.bool (dCleanB s)) ∧ w = w' := by
  obtain ⟨c, wd, n⟩ := s
  have c0 := Blk.cellD h 0 _ rfl
  have c2 := Blk.cellD h 2 _ rfl
  simp only at c0 c2
  clear h
  by_cases hn : n = 0
  · subst hn
    go_enter Try.func42, Try.ntmps42
    go_wp2
    go_ret
    exact ⟨ret_bool (by simp [dCleanB]; rfl), rfl⟩
  · have q1 : (n == 0) = false := by simpa using hn
    have q2 : dCleanB ⟨c, wd, n⟩ = false := by simp [dCleanB, hn]
    rw [q2]
    clear q2 hn
    go_enter Try.func42, Try.ntmps42
    go_wp2
    go_ret
    exact ⟨rfl, rfl⟩

set_option maxHeartbeats 400000 in
theorem dstretch_any (b : Nat) (s : DSt) (w : World) (h : DAt w b 86 s) (h0 : 0 ≤ s.w) (h1 : s.w < 4294967296) :
    Calls Try.prog 79 #[.pointer (some ⟨b, 0, none⟩)] w fun e w' => e = .returned (.tuple #[]) ∧ DAt w' b 86 ⟨s.c, strW s.w, strN s.w s.n⟩ ∧ Keeps (fun k => k = b) w w' := by
  obtain ⟨c, wd, n⟩ := s
  simp only at h0 h1 ⊢
  have c1 := Blk.cellD h 1 _ rfl
  have c2 := Blk.cellD h 2 _ rfl
  have f1 := Blk.frozen h 1
  have f2 := Blk.frozen h 2
  simp only at c1 c2
  have HB := Lib.hid h
  clear h
  by_cases hw : wd < 16777216
  · have e1 : strW wd = wd * 256 := if_pos hw
    have e2 : strN wd n = 1 := if_pos hw
    rw [e1, e2]
    clear e1 e2
    have q1 : decide (wd < 16777216) = true := by simpa using hw
    go_enter Try.func79, Try.ntmps79
    go_wp2
    go_end0
    exact ⟨rfl, ((HB.out.set 1 _).set 2 _), ((Keeps.self b w).put _ _).put _ _⟩
  · have e1 : strW wd = wd := if_neg hw
    have e2 : strN wd n = n := if_neg hw
    rw [e1, e2]
    clear e1 e2
    have q1 : decide (wd < 16777216) = false := by simpa using hw
    go_enter Try.func79, Try.ntmps79
    go_wp2
    go_end0
    exact ⟨rfl, HB.out, Keeps.refl _ _⟩
set_option maxHeartbeats 400000 in
theorem rdstretch_any (b : Nat) (s : DSt) (w : World) (h : DAt w b 79 s) (h0 : 0 ≤ s.w) (h1 : s.w < 4294967296) :
    Calls Try.prog 65 #[.pointer (some ⟨b, 0, none⟩)] w fun e w' => e = .returned (.tuple #[]) ∧ DAt w' b 79 ⟨s.c, strW s.w, strN s.w s.n⟩ ∧ Keeps (fun k => k = b) w w' := by
  obtain ⟨c, wd, n⟩ := s
  simp only at h0 h1 ⊢
  have c1 := Blk.cellD h 1 _ rfl
  have c2 := Blk.cellD h 2 _ rfl
  have f1 := Blk.frozen h 1
  have f2 := Blk.frozen h 2
  simp only at c1 c2
  have HB := Lib.hid h
  clear h
  by_cases hw : wd < 16777216
  · have e1 : strW wd = wd * 256 := if_pos hw
    have e2 : strN wd n = 1 := if_pos hw
    rw [e1, e2]
    clear e1 e2
    have q1 : decide (wd < 16777216) = true := by simpa using hw
    go_enter Try.func65, Try.ntmps65
    go_wp2
    go_end0
    exact ⟨rfl, ((HB.out.set 1 _).set 2 _), ((Keeps.self b w).put _ _).put _ _⟩
  · have e1 : strW wd = wd := if_neg hw
    have e2 : strN wd n = n := if_neg hw
    rw [e1, e2]
    clear e1 e2
    have q1 : decide (wd < 16777216) = false := by simpa using hw
    go_enter Try.func65, Try.ntmps65
    go_wp2
    go_end0
    exact ⟨rfl, HB.out, Keeps.refl _ _⟩

theorem or_low (x z : Int) (h0 : 0 ≤ x) (h1 : x < 16777216) (hz : 0 ≤ z ∧ z ≤ 255) : bits .or .u64 (x * 256) z = x * 256 + z := by
  obtain ⟨a, rfl⟩ := Int.eq_ofNat_of_zero_le h0
  obtain ⟨c, rfl⟩ := Int.eq_ofNat_of_zero_le hz.1
  have e : (a : Int) * 256 = ((a * 256 : Nat) : Int) := by omega
  rw [e, u64_or_nat _ _ (by omega) (by omega)]
  have h := Nat.shiftLeft_add_eq_or_of_lt (show c < 2 ^ 8 by omega) a
  rw [Nat.shiftLeft_eq] at h
  rw [show a * 256 = a * 2 ^ 8 from rfl, ← h]; omega

-- #1 name, #2 function, #3 type, #4 the value's spelling
set_option maxRecDepth 100000 in
set_option maxHeartbeats 400000 in
theorem dbyte_any (b : Nat) (s : DSt) (z : Int) (w : World) (h : DAt w b 86 s) (hi : DInv s) (hz : 0 ≤ z ∧ z ≤ 255) :
    Calls Try.prog 35 #[.pointer (some ⟨b, 0, none⟩), .int .u8 z] w fun e w' => e = .returned (.bool (dNeedB s)) ∧ DAt w' b 86 (dByteS s z) ∧ Keeps (fun k => k = b) w w' := by
  have N := Lib.hid (dneed_any b s w h)
  obtain ⟨c, wd, n⟩ := s
  obtain ⟨k0, k1, k2, k3, k4, k5, k6, k7, k8, k9⟩ := hi
  simp only at *
  have c0 := Blk.cellD h 0 _ rfl
  have c2 := Blk.cellD h 2 _ rfl
  have f0 := Blk.frozen h 0
  have f2 := Blk.frozen h 2
  simp only at c0 c2
  have HB := Lib.hid h
  obtain ⟨z0, z1⟩ := hz
  by_cases hn : 0 < n
  · have q : dNeedB ⟨c, wd, n⟩ = true := by simp [dNeedB, hn]
    have e : dByteS ⟨c, wd, n⟩ z = ⟨c * 256 + z, wd, n - 1⟩ := if_pos hn
    rw [q] at N ⊢
    rw [e]
    have hc : c < 16777216 := by omega
    have eo := or_low c z k0 hc ⟨z0, z1⟩
    clear q e k6 k7 k8 k9 h
    go_enter Try.func35, Try.ntmps35
    go_wp2_with (go_at_call 34; refine N.out.mono ?_; rintro e w' ⟨rfl, rfl⟩)
    go_ret
    exact ⟨rfl, (HB.out.set 0 _).set 2 _, ((Keeps.self b w).put _ _).put _ _⟩
  · have q : dNeedB ⟨c, wd, n⟩ = false := by simp [dNeedB, hn]
    have e : dByteS ⟨c, wd, n⟩ z = ⟨c, wd, n⟩ := if_neg hn
    rw [q] at N ⊢
    rw [e]
    clear q e k6 k7 k8 k9 h hn
    go_enter Try.func35, Try.ntmps35
    go_wp2_with (go_at_call 34; refine N.out.mono ?_; rintro e w' ⟨rfl, rfl⟩)
    go_ret
    exact ⟨rfl, HB.out, Keeps.self b w⟩
set_option maxRecDepth 100000 in
set_option maxHeartbeats 400000 in
theorem rdbyte_any (b : Nat) (s : DSt) (z : Int) (w : World) (h : DAt w b 79 s) (hi : DInv s) (hz : 0 ≤ z ∧ z ≤ 255) :
    Calls Try.prog 40 #[.pointer (some ⟨b, 0, none⟩), .int .u8 z] w fun e w' => e = .returned (.bool (dNeedB s)) ∧ DAt w' b 79 (dByteS s z) ∧ Keeps (fun k => k = b) w w' := by
  obtain ⟨c, wd, n⟩ := s
  obtain ⟨k0, k1, k2, k3, k4, k5, k6, k7, k8, k9⟩ := hi
  simp only at *
  have c0 := Blk.cellD h 0 _ rfl
  have c2 := Blk.cellD h 2 _ rfl
  have f0 := Blk.frozen h 0
  have f2 := Blk.frozen h 2
  simp only at c0 c2
  have HB := Lib.hid h
  obtain ⟨z0, z1⟩ := hz
  by_cases hn : 0 < n
  · have q : dNeedB ⟨c, wd, n⟩ = true := by simp [dNeedB, hn]
    have e : dByteS ⟨c, wd, n⟩ z = ⟨c * 256 + z, wd, n - 1⟩ := if_pos hn
    have q2 : (n == 0) = false := by simp; omega
    rw [q, e]
    have hc : c < 16777216 := by omega
    clear q e k6 k7 k8 k9 h
    go_enter Try.func40, Try.ntmps40
    go_wp2
    go_ret
    exact ⟨rfl, (HB.out.set 0 _).set 2 _, ((Keeps.self b w).put _ _).put _ _⟩
  · have q : dNeedB ⟨c, wd, n⟩ = false := by simp [dNeedB, hn]
    have e : dByteS ⟨c, wd, n⟩ z = ⟨c, wd, n⟩ := if_neg hn
    obtain rfl : n = 0 := by omega
    rw [q, e]
    clear q e k6 k7 k8 k9 h hn
    go_enter Try.func40, Try.ntmps40
    go_wp2
    go_ret
    exact ⟨rfl, HB.out, Keeps.self b w⟩

set_option maxRecDepth 100000 in
set_option maxHeartbeats 400000 in
theorem dsplit_any (b : Nat) (s : DSt) (bd ab : Int) (w : World) (h : DAt w b 86 s) (h0 : 0 ≤ s.c) (h1 : s.c < 4294967296) (b0 : 0 ≤ bd) (b1 : bd < 4294967296) (a0 : 0 ≤ ab) (a1 : ab < 4294967296) :
    Calls Try.prog 76 #[.pointer (some ⟨b, 0, none⟩), .int .u64 bd, .int .u64 ab] w fun e w' => e = .returned (.int .i64 (splB s bd)) ∧ DAt w' b 86 (splS s bd ab) ∧ Keeps (fun k => k = b) w w' := by
  obtain ⟨c, wd, n⟩ := s
  simp only at *
  have c0 := Blk.cellD h 0 _ rfl
  have c1 := Blk.cellD h 1 _ rfl
  have f0 := Blk.frozen h 0
  have f1 := Blk.frozen h 1
  simp only at c0 c1
  have HB := Lib.hid h
  clear h
  by_cases hc : c < bd
  · have e1 : splB ⟨c, wd, n⟩ bd = 0 := if_pos hc
    have e2 : splS ⟨c, wd, n⟩ bd ab = ⟨c, strW bd, strN bd n⟩ := if_pos hc
    have q : decide (c < bd) = true := by simpa using hc
    rw [e1, e2]
    clear e1 e2
    go_enter Try.func76, Try.ntmps76
    go_wp2_with fail
    refine (dstretch_any b ⟨c, bd, n⟩ _ (HB.out.set 1 _) b0 b1).mono ?_
    rintro e w' ⟨rfl, hd, hk⟩
    go_wp2
    go_ret
    exact ⟨rfl, hd, ((Keeps.self b w).put _ _).link hk⟩
  · have e1 : splB ⟨c, wd, n⟩ bd = 1 := if_neg hc
    have e2 : splS ⟨c, wd, n⟩ bd ab = ⟨c - bd, strW ab, strN ab n⟩ := if_neg hc
    have q : decide (c < bd) = false := by simpa using hc
    have hcb : bd ≤ c := by omega
    rw [e1, e2]
    clear e1 e2 hc
    go_enter Try.func76, Try.ntmps76
    go_wp2_with fail
    refine (dstretch_any b ⟨c - bd, ab, n⟩ _ ((HB.out.set 0 _).set 1 _) a0 a1).mono ?_
    rintro e w' ⟨rfl, hd, hk⟩
    go_wp2
    go_ret
    exact ⟨rfl, hd, (((Keeps.self b w).put _ _).put _ _).link hk⟩

theorem dBound_wide {s : DSt} (h : DInv s) (p : Int) : 0 ≤ s.w / 2048 ∧ s.w / 2048 ≤ 2097151 ∧ 0 ≤ dBound s p ∧ dBound s p ≤ s.w ∧ dBound s p < 4294967296 := by
  have h0 := h.w0
  have h1 := h.w1
  have a1 := hold_lo p
  have a2 := hold_hi p
  have h3 : 0 ≤ s.w / 2048 := by omega
  have h4 : s.w / 2048 * hold p ≤ s.w / 2048 * 2017 := Int.mul_le_mul_of_nonneg_left a2 h3
  have h5 : 0 ≤ s.w / 2048 * hold p := Int.mul_nonneg h3 (by omega)
  unfold dBound
  omega

set_option maxRecDepth 100000 in
set_option maxHeartbeats 800000 in
theorem dbit_any (b : Nat) (s : DSt) (p : Int) (w : World) (h : DAt w b 86 s) (hi : DInv s) :
    Calls Try.prog 69 #[.pointer (some ⟨b, 0, none⟩), .int .i64 p] w fun e w' => e = .returned (.tuple #[.int .i64 (dBitB s p), .int .i64 (dBitP s p)]) ∧ DAt w' b 86 (dBitS s p) ∧ Keeps (fun k => k = b) w w' := by
  have HH := Lib.hid (hold_any p w)
  have HM := Lib.hid (dmay_any b s w h)
  have hh := hold_hold p
  have a1 := hold_lo p
  have a2 := hold_hi p
  obtain ⟨b1, b2, b3, b4, b5⟩ := dBound_wide hi p
  cases hm : dMayB s with
  | false =>
    have e1 : dBitB s p = 0 := by simp [dBitB, hm]
    have e2 : dBitP s p = hold p := by simp [dBitP, hm]
    have e3 : dBitS s p = s := by simp [dBitS, hm]
    rw [e1, e2, e3]
    rw [hm] at HM
    have HB := Lib.hid h
    clear e1 e2 e3 hm hh h hi b1 b2 b3 b4 b5
    generalize hold p = q at *
    go_enter Try.func69, Try.ntmps69
    go_wp2_with (first | (go_at_call 74; refine HH.out.mono ?_; rintro e w' ⟨rfl, rfl⟩) | (go_at_call 75; refine HM.out.mono ?_; rintro e w' ⟨rfl, n, rfl⟩))
    go_ret2
    exact ⟨rfl, HB.out.drewN _, (Keeps.self b w).drewN _⟩
  | true =>
    have e1 : dBitB s p = splB s (dBound s p) := by simp [dBitB, hm]
    have e2 : dBitP s p = adapt p (splB s (dBound s p)) := by simp [dBitP, hm]
    have e3 : dBitS s p = splS s (dBound s p) (s.w - dBound s p) := by simp [dBitS, hm]
    have e4 : dBound s p = s.w / 2048 * hold p := rfl
    have HA : Hid (∀ w', Calls Try.prog 77 #[.int .i64 (hold p), .int .i64 (splB s (dBound s p))] w' fun e w'' => e = .returned (.int .i64 (adapt p (splB s (dBound s p)))) ∧ w' = w'') := fun w' => by
      have := adapt_any (hold p) (splB s (dBound s p)) w'
      rwa [adapt_hold] at this
    rw [e1, e2, e3]
    rw [hm] at HM
    have HB := Lib.hid h
    have i0 := hi.c0
    have i1 := hi.c1
    have i2 := hi.w0
    have i3 := hi.w1
    have HS : Hid (∀ n, Calls Try.prog 76 #[.pointer (some ⟨b, 0, none⟩), .int .u64 (dBound s p), .int .u64 (s.w - dBound s p)] (w.drewN n) fun e w' => e = .returned (.int .i64 (splB s (dBound s p))) ∧ DAt w' b 86 (splS s (dBound s p) (s.w - dBound s p)) ∧ Keeps (fun k => k = b) (w.drewN n) w') := fun n =>
      dsplit_any b s (dBound s p) (s.w - dBound s p) (w.drewN n) (h.drewN n) i0 i1 b3 b5 (by omega) (by omega)
    have c1 := Blk.cellD h 1 _ rfl
    clear e1 e2 e3 hm hh h hi
    replace b3 : 0 ≤ s.w / 2048 * hold p := b3
    replace b4 : s.w / 2048 * hold p ≤ s.w := b4
    replace b5 : s.w / 2048 * hold p < 4294967296 := b5
    rw [e4] at HA HS
    rw [e4]
    clear e4
    generalize splB s (s.w / 2048 * hold p) = bit at *
    generalize splS s (s.w / 2048 * hold p) (s.w - s.w / 2048 * hold p) = s' at *
    obtain ⟨c, wd, n⟩ := s
    simp only at *
    generalize hold p = q at *
    go_enter Try.func69, Try.ntmps69
    go_wp2_with (first | (go_at_call 74; refine HH.out.mono ?_; rintro e w' ⟨rfl, rfl⟩) | (go_at_call 75; refine HM.out.mono ?_; rintro e w' ⟨rfl, n, rfl⟩) | (go_at_call 76; (with_reducible refine (HS.out _).mono ?_); rintro e w' ⟨rfl, hd, hk⟩) | (go_at_call 77; refine (HA.out _).mono ?_; rintro e w' ⟨rfl, rfl⟩))
    go_ret2
    exact ⟨rfl, hd, ((Keeps.self b w).drewN n).link hk⟩

set_option maxRecDepth 100000 in
set_option maxHeartbeats 800000 in
theorem dhalf_any (b : Nat) (s : DSt) (w : World) (h : DAt w b 86 s) (hi : DInv s) :
    Calls Try.prog 70 #[.pointer (some ⟨b, 0, none⟩)] w fun e w' => e = .returned (.int .i64 (dHalfB s)) ∧ DAt w' b 86 (dHalfS s) ∧ Keeps (fun k => k = b) w w' := by
  have HM := Lib.hid (dmay_any b s w h)
  cases hm : dMayB s with
  | false =>
    have e1 : dHalfB s = 0 := by simp [dHalfB, hm]
    have e3 : dHalfS s = s := by simp [dHalfS, hm]
    rw [e1, e3]
    rw [hm] at HM
    have HB := Lib.hid h
    clear e1 e3 hm h hi
    go_enter Try.func70, Try.ntmps70
    go_wp2_with (go_at_call 75; refine HM.out.mono ?_; rintro e w' ⟨rfl, n, rfl⟩)
    go_ret
    exact ⟨rfl, HB.out.drewN _, (Keeps.self b w).drewN _⟩
  | true =>
    have e1 : dHalfB s = splB s (s.w / 2) := by simp [dHalfB, hm]
    have e3 : dHalfS s = splS s (s.w / 2) (s.w / 2) := by simp [dHalfS, hm]
    rw [e1, e3]
    rw [hm] at HM
    have i0 := hi.c0
    have i1 := hi.c1
    have i2 := hi.w0
    have i3 := hi.w1
    have HS : Hid (∀ n, Calls Try.prog 76 #[.pointer (some ⟨b, 0, none⟩), .int .u64 (s.w / 2), .int .u64 (s.w / 2)] (w.drewN n).drew fun e w' => e = .returned (.int .i64 (splB s (s.w / 2))) ∧ DAt w' b 86 (splS s (s.w / 2) (s.w / 2)) ∧ Keeps (fun k => k = b) (w.drewN n).drew w') := fun n =>
      dsplit_any b s (s.w / 2) (s.w / 2) _ ((h.drewN n).drew) i0 i1 (by omega) (by omega) (by omega) (by omega)
    have c1 := Blk.cellD h 1 _ rfl
    clear e1 e3 hm h hi
    generalize splB s (s.w / 2) = bit at *
    generalize splS s (s.w / 2) (s.w / 2) = s' at *
    obtain ⟨c, wd, n⟩ := s
    simp only at *
    go_enter Try.func70, Try.ntmps70
    go_wp2_with (go_at_call 75; refine HM.out.mono ?_; rintro e w' ⟨rfl, n, rfl⟩)
    obtain ⟨mS, mh⟩ : ∃ S : World → Prop, ∀ w', S w' ↔ (w'.cell? ⟨b, 1, none⟩ = some (.int .u64 wd)) := ⟨_, fun _ => Iff.rfl⟩
    have mk0 : ∀ x : Memb mS, x.at_.cell? ⟨b, 1, none⟩ = some (.int .u64 wd) := fun x => ((mh _).1 x.is)
    have mn : Nonempty (Memb mS) := ⟨⟨((w.drewN n)).drew, (mh _).2 (c1)⟩⟩
    have mH := Lib.hid mh
    clear mh
    refine wp_region_mix [11, 12] (InS mS) (by kernel_rfl) (by kernel_rfl) (InS.mk ((mH.out _).2 (c1))) ?_
    refine wpMix_seg 11 (by kernel_rfl) (by decide) ?_
    simp only [List.take_succ_cons, List.take_zero, List.drop_succ_cons, List.drop_zero]
    repeat (go_big_quiet_step (fail))
    refine wpQuiet_nil ?_
    refine wpMix_eff (by kernel_rfl) ?_
    go_wp2_with fail
    refine (HS.out _).mono ?_
    rintro e w' ⟨rfl, hd, hk⟩
    go_wp2
    refine MixK.last (by kernel_rfl) ?_
    refine wpMix_eff (by kernel_rfl) ?_
    go_wp2
    refine MixK.last (by kernel_rfl) ?_
    refine wpMix_nil ?_
    clear mk0 mn mH
    go_wp2
    go_ret
    exact ⟨rfl, hd, ((Keeps.self b w).drewN n).drew.link hk⟩

set_option maxRecDepth 100000 in
set_option maxHeartbeats 800000 in
theorem rdbit_no (b : Nat) (s : DSt) (p : Int) (w : World) (h : DAt w b 79 s) (hm : dMayB s = false) (hn0 : 0 ≤ s.n) :
    Calls Try.prog 55 #[.pointer (some ⟨b, 0, none⟩), .int .i64 p] w fun e w' => e = .returned (.tuple #[.int .i64 0, .int .i64 (hold p)]) ∧ ∃ n, w' = w.drewN n := by
  have HH := Lib.hid (fun w => rhold_any p w)
  have HM := Lib.hid (rdlost_any b s w h)
  have c2 := Blk.cellD h 2 _ rfl
  have hl : dLostB s = decide (s.n = 0) := by simp [dMayB, dLostB] at hm ⊢; intro h; have := hm h; omega
  by_cases hn : s.n = 0
  · rw [hl, decide_eq_true hn] at HM
    obtain ⟨c, wd, n⟩ := s
    simp only at hn
    subst hn
    clear h hl hm hn0
    generalize hold p = q at *
    go_enter Try.func55, Try.ntmps55
    go_wp2_with (first | (go_at_call 64; refine (HH.out _).mono ?_; rintro e w' ⟨rfl, rfl⟩) | (go_at_call 41; refine HM.out.mono ?_; rintro e w' ⟨rfl, n, rfl⟩))
    go_ret2
    exact ⟨rfl, _, rfl⟩
  · obtain ⟨c, wd, n⟩ := s
    simp only at hn hn0
    have q1 : decide (0 < n) = true := by simp; omega
    clear h hl hm HM hn hn0
    generalize hold p = q at *
    go_enter Try.func55, Try.ntmps55
    go_wp2_with (go_at_call 64; refine (HH.out _).mono ?_; rintro e w' ⟨rfl, rfl⟩)
    go_ret2
    exact ⟨rfl, 0, rfl⟩

set_option maxRecDepth 100000 in
set_option maxHeartbeats 1600000 in
theorem rdbit_yes (b : Nat) (s : DSt) (p : Int) (w : World) (h : DAt w b 79 s) (hi : DInv s) (hm : dMayB s = true) :
    Calls Try.prog 55 #[.pointer (some ⟨b, 0, none⟩), .int .i64 p] w fun e w' => e = .returned (.tuple #[.int .i64 (splB s (dBound s p)), .int .i64 (adapt p (splB s (dBound s p)))]) ∧ DAt w' b 79 (splS s (dBound s p) (s.w - dBound s p)) ∧ Keeps (fun k => k = b) w w' := by
  have HH := Lib.hid (fun w => rhold_any p w)
  have HM := Lib.hid (rdlost_any b s w h)
  have hl : dLostB s = false := by simp [dMayB, dLostB] at hm ⊢; intro _; omega
  rw [hl] at HM
  have hn : s.n = 0 := by simp [dMayB] at hm; exact hm.1
  have a1 := hold_lo p
  have a2 := hold_hi p
  obtain ⟨b1, b2, b3, b4, b5⟩ := dBound_wide hi p
  have e4 : dBound s p = s.w / 2048 * hold p := rfl
  rw [e4] at b3 b4 b5 ⊢
  have HA := Lib.hid (fun x w => radapt_any p x w)
  have i0 := hi.c0
  have i1 := hi.c1
  have i2 := hi.w0
  have i3 := hi.w1
  obtain ⟨c, wd, n⟩ := s
  simp only at *
  subst hn
  have c0 := Blk.cellD h 0 _ rfl
  have c1 := Blk.cellD h 1 _ rfl
  have c2 := Blk.cellD h 2 _ rfl
  have f0 := Blk.frozen h 0
  have f1 := Blk.frozen h 1
  simp only at c0 c1 c2
  have HB := Lib.hid h
  clear e4 hm h hi hl
  generalize hold p = q at *
  by_cases hc : c < wd / 2048 * q
  · have q1 : decide (c < wd / 2048 * q) = true := by simpa using hc
    have e1 : splB ⟨c, wd, 0⟩ (wd / 2048 * q) = 0 := if_pos hc
    have e2 : splS ⟨c, wd, 0⟩ (wd / 2048 * q) (wd - wd / 2048 * q) = ⟨c, strW (wd / 2048 * q), strN (wd / 2048 * q) 0⟩ := if_pos hc
    rw [e1, e2]
    have ST := Lib.hid (fun w' h => rdstretch_any b ⟨c, wd / 2048 * q, 0⟩ w' h b3 b5)
    clear e1 e2 hc
    go_enter Try.func55, Try.ntmps55
    go_wp2_with (go_at_call 41; refine HM.out.mono ?_; rintro e w' ⟨rfl, n, rfl⟩)
    obtain ⟨mS, mh⟩ : ∃ S : World → Prop, ∀ w', S w' ↔ (w'.cell? ⟨b, 1, none⟩ = some (.int .u64 wd)) := ⟨_, fun _ => Iff.rfl⟩
    have mk0 : ∀ x : Memb mS, x.at_.cell? ⟨b, 1, none⟩ = some (.int .u64 wd) := fun x => ((mh _).1 x.is)
    have mn : Nonempty (Memb mS) := ⟨⟨((w.drewN n)).drew, (mh _).2 (c1)⟩⟩
    have mH := Lib.hid mh
    clear mh
    refine wp_region_mix [6] (InS mS) (by kernel_rfl) (by kernel_rfl) (InS.mk ((mH.out _).2 (c1))) ?_
    refine wpMix_seg 6 (by kernel_rfl) (by decide) ?_
    simp only [List.take_succ_cons, List.take_zero, List.drop_succ_cons, List.drop_zero]
    repeat (go_big_quiet_step (fail))
    refine wpQuiet_nil ?_
    refine wpMix_eff (by kernel_rfl) ?_
    go_wp2_with fail
    refine (HH.out _).mono ?_
    rintro e w' ⟨rfl, rfl⟩
    go_wp2
    refine MixK.on (InS.mk ((mH.out _).2 (c1))) ?_
    refine wpMix_seg 3 (by kernel_rfl) (by decide) ?_
    simp only [List.take_succ_cons, List.take_zero, List.drop_succ_cons, List.drop_zero]
    repeat (go_big_quiet_step (fail))
    refine wpQuiet_nil ?_
    refine wpMix_nil ?_
    clear mk0 mn mH
    go_wp2_with fail
    refine (ST.out _ (Blk.set (Blk.drewN HB.out (n + 1)) 1 _)).mono ?_
    rintro e w' ⟨rfl, hd, hk⟩
    go_wp2_with (go_at_call 66; refine (HA.out _ _).mono ?_; rintro e w'' ⟨rfl, rfl⟩)
    go_ret2
    exact ⟨rfl, hd, (((Keeps.self b w).drewN _).put _ _).link hk⟩
  · have q1 : decide (c < wd / 2048 * q) = false := by simpa using hc
    have e1 : splB ⟨c, wd, 0⟩ (wd / 2048 * q) = 1 := if_neg hc
    have e2 : splS ⟨c, wd, 0⟩ (wd / 2048 * q) (wd - wd / 2048 * q) = ⟨c - wd / 2048 * q, strW (wd - wd / 2048 * q), strN (wd - wd / 2048 * q) 0⟩ := if_neg hc
    rw [e1, e2]
    have ST := Lib.hid (fun w' h => rdstretch_any b ⟨c - wd / 2048 * q, wd - wd / 2048 * q, 0⟩ w' h (by simp only; omega) (by simp only; omega))
    have hcb : wd / 2048 * q ≤ c := by omega
    clear e1 e2 hc
    go_enter Try.func55, Try.ntmps55
    go_wp2_with (go_at_call 41; refine HM.out.mono ?_; rintro e w' ⟨rfl, n, rfl⟩)
    obtain ⟨mS, mh⟩ : ∃ S : World → Prop, ∀ w', S w' ↔ (w'.cell? ⟨b, 1, none⟩ = some (.int .u64 wd)) := ⟨_, fun _ => Iff.rfl⟩
    have mk0 : ∀ x : Memb mS, x.at_.cell? ⟨b, 1, none⟩ = some (.int .u64 wd) := fun x => ((mh _).1 x.is)
    have mn : Nonempty (Memb mS) := ⟨⟨((w.drewN n)).drew, (mh _).2 (c1)⟩⟩
    have mH := Lib.hid mh
    clear mh
    refine wp_region_mix [6] (InS mS) (by kernel_rfl) (by kernel_rfl) (InS.mk ((mH.out _).2 (c1))) ?_
    refine wpMix_seg 6 (by kernel_rfl) (by decide) ?_
    simp only [List.take_succ_cons, List.take_zero, List.drop_succ_cons, List.drop_zero]
    repeat (go_big_quiet_step (fail))
    refine wpQuiet_nil ?_
    refine wpMix_eff (by kernel_rfl) ?_
    go_wp2_with fail
    refine (HH.out _).mono ?_
    rintro e w' ⟨rfl, rfl⟩
    go_wp2
    refine MixK.on (InS.mk ((mH.out _).2 (c1))) ?_
    refine wpMix_seg 3 (by kernel_rfl) (by decide) ?_
    simp only [List.take_succ_cons, List.take_zero, List.drop_succ_cons, List.drop_zero]
    repeat (go_big_quiet_step (fail))
    refine wpQuiet_nil ?_
    refine wpMix_nil ?_
    clear mk0 mn mH
    go_wp2_with fail
    refine (ST.out _ (Blk.set (Blk.set (Blk.drewN HB.out (n + 1)) 0 _) 1 _)).mono ?_
    rintro e w' ⟨rfl, hd, hk⟩
    go_wp2_with (go_at_call 66; refine (HA.out _ _).mono ?_; rintro e w'' ⟨rfl, rfl⟩)
    go_ret2
    exact ⟨rfl, hd, ((((Keeps.self b w).drewN _).put _ _).put _ _).link hk⟩

theorem rdbit_any (b : Nat) (s : DSt) (p : Int) (w : World) (h : DAt w b 79 s) (hi : DInv s) :
    Calls Try.prog 55 #[.pointer (some ⟨b, 0, none⟩), .int .i64 p] w fun e w' => e = .returned (.tuple #[.int .i64 (dBitB s p), .int .i64 (dBitP s p)]) ∧ DAt w' b 79 (dBitS s p) ∧ Keeps (fun k => k = b) w w' := by
  cases hm : dMayB s with
  | false =>
    have e1 : dBitB s p = 0 := by simp [dBitB, hm]
    have e2 : dBitP s p = hold p := by simp [dBitP, hm]
    have e3 : dBitS s p = s := by simp [dBitS, hm]
    rw [e1, e2, e3]
    refine (rdbit_no b s p w h hm hi.n0).mono ?_
    rintro e w' ⟨rfl, n, rfl⟩
    exact ⟨rfl, h.drewN n, (Keeps.self b w).drewN n⟩
  | true =>
    have e1 : dBitB s p = splB s (dBound s p) := by simp [dBitB, hm]
    have e2 : dBitP s p = adapt p (splB s (dBound s p)) := by simp [dBitP, hm]
    have e3 : dBitS s p = splS s (dBound s p) (s.w - dBound s p) := by simp [dBitS, hm]
    rw [e1, e2, e3]
    exact rdbit_yes b s p w h hi hm

set_option maxRecDepth 100000 in
set_option maxHeartbeats 800000 in
theorem rdhalf_no (b : Nat) (s : DSt) (w : World) (h : DAt w b 79 s) (hm : dMayB s = false) (hn0 : 0 ≤ s.n) :
    Calls Try.prog 57 #[.pointer (some ⟨b, 0, none⟩)] w fun e w' => e = .returned (.int .i64 0) ∧ ∃ n, w' = w.drewN n := by
  have HM := Lib.hid (rdlost_any b s w h)
  have c2 := Blk.cellD h 2 _ rfl
  have hl : dLostB s = decide (s.n = 0) := by simp [dMayB, dLostB] at hm ⊢; intro h; have := hm h; omega
  by_cases hn : s.n = 0
  · rw [hl, decide_eq_true hn] at HM
    obtain ⟨c, wd, n⟩ := s
    simp only at hn
    subst hn
    clear h hl hm hn0
    go_enter Try.func57, Try.ntmps57
    go_wp2_with (go_at_call 41; refine HM.out.mono ?_; rintro e w' ⟨rfl, n, rfl⟩)
    go_ret
    exact ⟨rfl, _, rfl⟩
  · obtain ⟨c, wd, n⟩ := s
    simp only at hn hn0
    have q1 : decide (0 < n) = true := by simp; omega
    clear h hl hm HM hn hn0
    go_enter Try.func57, Try.ntmps57
    go_wp2
    go_ret
    exact ⟨rfl, 0, rfl⟩

set_option maxRecDepth 100000 in
set_option maxHeartbeats 1600000 in
theorem rdhalf_yes (b : Nat) (s : DSt) (w : World) (h : DAt w b 79 s) (hi : DInv s) (hm : dMayB s = true) :
    Calls Try.prog 57 #[.pointer (some ⟨b, 0, none⟩)] w fun e w' => e = .returned (.int .i64 (splB s (s.w / 2))) ∧ DAt w' b 79 (splS s (s.w / 2) (s.w / 2)) ∧ Keeps (fun k => k = b) w w' := by
  have HM := Lib.hid (rdlost_any b s w h)
  have hl : dLostB s = false := by simp [dMayB, dLostB] at hm ⊢; intro _; omega
  rw [hl] at HM
  have hn : s.n = 0 := by simp [dMayB] at hm; exact hm.1
  have i0 := hi.c0
  have i1 := hi.c1
  have i2 := hi.w0
  have i3 := hi.w1
  obtain ⟨c, wd, n⟩ := s
  simp only at *
  subst hn
  have c0 := Blk.cellD h 0 _ rfl
  have c1 := Blk.cellD h 1 _ rfl
  have c2 := Blk.cellD h 2 _ rfl
  have f0 := Blk.frozen h 0
  have f1 := Blk.frozen h 1
  simp only at c0 c1 c2
  have HB := Lib.hid h
  have j1 : 0 ≤ wd / 2 := by omega
  have j2 : wd / 2 < 4294967296 := by omega
  clear hm h hi hl
  by_cases hc : c < wd / 2
  · have q1 : decide (wd / 2 ≤ c) = false := by simp; omega
    have e1 : splB ⟨c, wd, 0⟩ (wd / 2) = 0 := if_pos hc
    have e2 : splS ⟨c, wd, 0⟩ (wd / 2) (wd / 2) = ⟨c, strW (wd / 2), strN (wd / 2) 0⟩ := if_pos hc
    rw [e1, e2]
    have ST := Lib.hid (fun w' h => rdstretch_any b ⟨c, wd / 2, 0⟩ w' h j1 j2)
    clear e1 e2 hc
    go_enter Try.func57, Try.ntmps57
    go_wp2_with (go_at_call 41; refine HM.out.mono ?_; rintro e w' ⟨rfl, n, rfl⟩)
    go_quiet (fail)
    go_wp2_with fail
    refine (ST.out _ (Blk.drewN (Blk.set (Blk.drewN HB.out n) 1 _) nq)).mono ?_
    rintro e w' ⟨rfl, hd, hk⟩
    go_wp2
    go_ret
    exact ⟨rfl, hd, Keeps.link ((((Keeps.self b w).drewN n).put _ _).drewN nq) hk⟩
  · have q1 : decide (wd / 2 ≤ c) = true := by simp; omega
    have e1 : splB ⟨c, wd, 0⟩ (wd / 2) = 1 := if_neg hc
    have e2 : splS ⟨c, wd, 0⟩ (wd / 2) (wd / 2) = ⟨c - wd / 2, strW (wd / 2), strN (wd / 2) 0⟩ := if_neg hc
    rw [e1, e2]
    have ST := Lib.hid (fun w' h => rdstretch_any b ⟨c - wd / 2, wd / 2, 0⟩ w' h j1 j2)
    have hcb : wd / 2 ≤ c := by omega
    clear e1 e2 hc
    go_enter Try.func57, Try.ntmps57
    go_wp2_with (go_at_call 41; refine HM.out.mono ?_; rintro e w' ⟨rfl, n, rfl⟩)
    go_quiet (fail)
    go_wp2
    have B1 := Blk.drewN (Blk.set (Blk.drewN HB.out n) 1 (.int .u64 (wd / 2))) nq
    have K1 := (((Keeps.self b w).drewN n).put 1 (.int .u64 (wd / 2))).drewN nq
    generalize ((w.drewN n).setCell ⟨b, 1, none⟩ (.int .u64 (wd / 2))).drewN nq = wx at *
    have d0 := Blk.cellD B1 0 _ rfl
    have d1 := Blk.cellD B1 1 _ rfl
    have g0 := Blk.frozen B1 0
    simp only at d0 d1
    have HB1 := Lib.hid B1
    clear B1 HB f0 f1
    obtain ⟨mS, mh⟩ : ∃ S : World → Prop, ∀ w', S w' ↔ (w'.cell? ⟨b, 0, none⟩ = some (.int .u64 c) ∧ w'.cell? ⟨b, 1, none⟩ = some (.int .u64 (wd / 2))) := ⟨_, fun _ => Iff.rfl⟩
    have mk0 : ∀ x : Memb mS, x.at_.cell? ⟨b, 0, none⟩ = some (.int .u64 c) := fun x => ((mh _).1 x.is).1
    have mk1 : ∀ x : Memb mS, x.at_.cell? ⟨b, 1, none⟩ = some (.int .u64 (wd / 2)) := fun x => ((mh _).1 x.is).2
    have mn : Nonempty (Memb mS) := ⟨⟨(wx).drew, (mh _).2 ⟨d0, d1⟩⟩⟩
    have mH := Lib.hid mh
    clear mh
    refine wp_region_mix [12] (InS mS) (by kernel_rfl) (by kernel_rfl) (InS.mk ((mH.out _).2 ⟨d0, d1⟩)) ?_
    refine wpMix_seg 12 (by kernel_rfl) (by decide) ?_
    simp only [List.take_succ_cons, List.take_zero, List.drop_succ_cons, List.drop_zero]
    repeat (go_big_quiet_step (fail))
    refine wpQuiet_nil ?_
    refine wpMix_eff (by kernel_rfl) ?_
    go_wp2
    refine MixK.last (by kernel_rfl) ?_
    refine wpMix_nil ?_
    clear mk0 mk1 mn mH
    go_wp2_with fail
    refine (ST.out _ (Blk.drew (Blk.set HB1.out 0 _))).mono ?_
    rintro e w' ⟨rfl, hd, hk⟩
    go_wp2
    go_ret
    exact ⟨rfl, hd, Keeps.link (K1.put _ _).drew hk⟩

theorem rdhalf_any (b : Nat) (s : DSt) (w : World) (h : DAt w b 79 s) (hi : DInv s) :
    Calls Try.prog 57 #[.pointer (some ⟨b, 0, none⟩)] w fun e w' => e = .returned (.int .i64 (dHalfB s)) ∧ DAt w' b 79 (dHalfS s) ∧ Keeps (fun k => k = b) w w' := by
  cases hm : dMayB s with
  | false =>
    have e1 : dHalfB s = 0 := by simp [dHalfB, hm]
    have e3 : dHalfS s = s := by simp [dHalfS, hm]
    rw [e1, e3]
    refine (rdhalf_no b s w h hm hi.n0).mono ?_
    rintro e w' ⟨rfl, n, rfl⟩
    exact ⟨rfl, h.drewN n, (Keeps.self b w).drewN n⟩
  | true =>
    have e1 : dHalfB s = splB s (s.w / 2) := by simp [dHalfB, hm]
    have e3 : dHalfS s = splS s (s.w / 2) (s.w / 2) := by simp [dHalfS, hm]
    rw [e1, e3]
    exact rdhalf_yes b s w h hi hm
end Go.Proofs.Ytnanbnaikmaljaa
