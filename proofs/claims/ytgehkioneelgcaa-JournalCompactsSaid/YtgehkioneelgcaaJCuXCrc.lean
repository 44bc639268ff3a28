
/- The plain law of the sum: what eight halvings make of a byte, and a row's sum; linear, and turned by every single byte. -/
import Derived.Test.YtgehkioneelgcaaJCua
namespace Go.Proofs.Ytgehkioneelgcaa
open Go.RowKit

/-- One halving. -/
def half1 (x : Nat) : Nat := if x % 2 = 1 then (x / 2) ^^^ 3988292384 else x / 2
/-- So many halvings. -/
def halves : Nat → Nat → Nat
  | 0, x => x
  | k + 1, x => halves k (half1 x)
/-- A byte is taken. -/
def crcStep (x c : Nat) : Nat := (x / 256) ^^^ halves 8 ((x % 256) ^^^ c)
/-- Bytes are taken. -/
def crcRun (x : Nat) (zs : List Nat) : Nat := zs.foldl crcStep x
/-- The sum of bytes. -/
def crcOf (zs : List Nat) : Nat := crcRun 4294967295 zs ^^^ 4294967295

theorem halves_succ (k x : Nat) : halves (k + 1) x = half1 (halves k x) := by
  induction k generalizing x with
  | zero => rfl
  | succ k ih => rw [halves, ih, halves]

theorem xor_mod2 (x y : Nat) : (x ^^^ y) % 2 = (x % 2 + y % 2) % 2 := by
  have h : (x ^^^ y) % 2 = (x % 2) ^^^ (y % 2) := by
    have := Nat.xor_mod_two_pow (a := x) (b := y) (n := 1)
    simpa using this
  rw [h]
  rcases Nat.mod_two_eq_zero_or_one x with h1 | h1 <;> rcases Nat.mod_two_eq_zero_or_one y with h2 | h2 <;> rw [h1, h2] <;> rfl
theorem xor_div2 (x y : Nat) : (x ^^^ y) / 2 = (x / 2) ^^^ (y / 2) := by
  have := Nat.xor_div_two_pow (a := x) (b := y) (n := 1)
  simpa using this
theorem xor4 (a b c : Nat) : (a ^^^ c) ^^^ (b ^^^ c) = a ^^^ b := by
  rw [Nat.xor_comm b c, Nat.xor_assoc, ← Nat.xor_assoc c c b, Nat.xor_self, Nat.zero_xor]
theorem xor4' (a b c d : Nat) : (a ^^^ b) ^^^ (c ^^^ d) = (a ^^^ c) ^^^ (b ^^^ d) := by
  rw [Nat.xor_assoc, ← Nat.xor_assoc b c d, Nat.xor_comm b c, Nat.xor_assoc c b d, ← Nat.xor_assoc]
theorem half1_xor (x y : Nat) : half1 (x ^^^ y) = half1 x ^^^ half1 y := by
  unfold half1
  rw [xor_mod2, xor_div2]
  rcases Nat.mod_two_eq_zero_or_one x with h1 | h1 <;> rcases Nat.mod_two_eq_zero_or_one y with h2 | h2 <;> rw [h1, h2] <;> simp
  · exact Nat.xor_assoc ..
  · rw [Nat.xor_assoc, Nat.xor_assoc, Nat.xor_comm (y / 2)]
  · exact (xor4 _ _ _).symm
theorem halves_xor (k x y : Nat) : halves k (x ^^^ y) = halves k x ^^^ halves k y := by
  induction k generalizing x y with
  | zero => rfl
  | succ k ih => simp only [halves]; rw [half1_xor, ih]
theorem crcStep_xor (x y c d : Nat) : crcStep (x ^^^ y) (c ^^^ d) = crcStep x c ^^^ crcStep y d := by
  unfold crcStep
  have h1 : (x ^^^ y) / 256 = (x / 256) ^^^ (y / 256) := by
    have := Nat.xor_div_two_pow (a := x) (b := y) (n := 8); simpa using this
  have h2 : (x ^^^ y) % 256 = (x % 256) ^^^ (y % 256) := by
    have := Nat.xor_mod_two_pow (a := x) (b := y) (n := 8); simpa using this
  rw [h1, h2, xor4' (x % 256) (y % 256) c d, halves_xor, xor4']
theorem half1_lt {x : Nat} (h : x < 4294967296) : half1 x < 4294967296 := by
  unfold half1
  split
  · exact Nat.xor_lt_two_pow (n := 32) (by omega) (by decide)
  · omega
theorem halves_lt (k : Nat) {x : Nat} (h : x < 4294967296) : halves k x < 4294967296 := by
  induction k generalizing x with
  | zero => exact h
  | succ k ih => exact ih (half1_lt h)
theorem crcStep_lt {x c : Nat} (h : x < 4294967296) (hc : c < 256) : crcStep x c < 4294967296 :=
  Nat.xor_lt_two_pow (n := 32) (by omega) (halves_lt 8 (Nat.lt_of_lt_of_le (Nat.xor_lt_two_pow (n := 8) (Nat.mod_lt _ (by decide)) hc) (by decide)))
theorem crcRun_lt {x : Nat} (h : x < 4294967296) {zs : List Nat} (hz : ∀ z ∈ zs, z < 256) : crcRun x zs < 4294967296 := by
  induction zs generalizing x with
  | nil => exact h
  | cons c zs ih => exact ih (crcStep_lt h (hz c (by simp))) (fun z h => hz z (by simp [h]))
theorem crcOf_lt {zs : List Nat} (hz : ∀ z ∈ zs, z < 256) : crcOf zs < 4294967296 :=
  Nat.xor_lt_two_pow (n := 32) (crcRun_lt (by decide) hz) (by decide)
theorem crcRun_append (x : Nat) (xs ys : List Nat) : crcRun x (xs ++ ys) = crcRun (crcRun x xs) ys := by simp [crcRun]

set_option maxRecDepth 100000 in
theorem halves_low : ∀ i, i < 256 → halves 8 i < 16777216 → i = 0 := by decide +kernel
/-- Taking a byte loses nothing. -/
theorem crcStep_zero {x : Nat} (hx : x < 4294967296) (h : crcStep x 0 = 0) : x = 0 := by
  unfold crcStep at h
  rw [Nat.xor_zero] at h
  have e : x / 256 = halves 8 (x % 256) := by
    have := congrArg (· ^^^ halves 8 (x % 256)) h
    simp only [Nat.xor_assoc, Nat.xor_self, Nat.xor_zero, Nat.zero_xor] at this
    exact this
  have h0 := halves_low (x % 256) (Nat.mod_lt _ (by decide)) (by rw [← e]; omega)
  rw [h0] at e
  have : halves 8 0 = 0 := by decide
  omega
theorem xor_eq_zero' {a b : Nat} (h : a ^^^ b = 0) : a = b := by
  have := congrArg (· ^^^ b) h
  simp only [Nat.xor_assoc, Nat.xor_self, Nat.xor_zero, Nat.zero_xor] at this
  exact this
theorem crcStep_inj {x y c : Nat} (hx : x < 4294967296) (hy : y < 4294967296) (h : crcStep x c = crcStep y c) : x = y := by
  have e := crcStep_xor x y c c
  rw [Nat.xor_self, h, Nat.xor_self] at e
  exact xor_eq_zero' (crcStep_zero (Nat.xor_lt_two_pow (n := 32) hx hy) e)
theorem crcRun_inj {x y : Nat} (hx : x < 4294967296) (hy : y < 4294967296) {zs : List Nat} (hz : ∀ z ∈ zs, z < 256) (h : crcRun x zs = crcRun y zs) : x = y := by
  induction zs generalizing x y with
  | nil => exact h
  | cons c zs ih =>
    have hc := hz c (by simp)
    exact crcStep_inj hx hy (ih (crcStep_lt hx hc) (crcStep_lt hy hc) (fun z h => hz z (by simp [h])) h)
theorem crcStep_byte {x c d : Nat} (hc : c < 256) (hd : d < 256) (h : crcStep x c = crcStep x d) : c = d := by
  have e := crcStep_xor x x c d
  rw [Nat.xor_self, h, Nat.xor_self] at e
  unfold crcStep at e
  have hl : c ^^^ d < 256 := Nat.xor_lt_two_pow (n := 8) hc hd
  simp only [Nat.zero_div, Nat.zero_mod, Nat.zero_xor] at e
  exact xor_eq_zero' (halves_low _ hl (by rw [e]; decide))
/-- Rows that differ in one byte alone have different sums. -/
theorem crcOf_one {xs ys : List Nat} {c d : Nat} (ha : ∀ z ∈ xs, z < 256) (hb : ∀ z ∈ ys, z < 256) (hc : c < 256) (hd : d < 256) (h : crcOf (xs ++ c :: ys) = crcOf (xs ++ d :: ys)) : c = d := by
  have h2 : crcRun 4294967295 (xs ++ c :: ys) = crcRun 4294967295 (xs ++ d :: ys) := by
    have := congrArg (· ^^^ 4294967295) h
    simpa [crcOf, Nat.xor_assoc] using this
  rw [crcRun_append, crcRun_append] at h2
  have hr := crcRun_lt (x := 4294967295) (by decide) ha
  have h3 : crcStep (crcRun 4294967295 xs) c = crcStep (crcRun 4294967295 xs) d := crcRun_inj (zs := ys) (crcStep_lt hr hc) (crcStep_lt hr hd) hb h2
  exact crcStep_byte hc hd h3
/-- The sum of three rows of one length, bit by bit. -/
theorem crcRun_mix (x y z : Nat) : ∀ (xs ys us : List Nat), ys.length = xs.length → us.length = xs.length →
    crcRun (x ^^^ y ^^^ z) ((xs.zip (ys.zip us)).map fun t => t.1 ^^^ t.2.1 ^^^ t.2.2) = crcRun x xs ^^^ crcRun y ys ^^^ crcRun z us
  | [], [], [], _, _ => rfl
  | a :: xs, b :: ys, c :: us, h1, h2 => by
    have := crcRun_mix (crcStep x a) (crcStep y b) (crcStep z c) xs ys us (by simpa using h1) (by simpa using h2)
    simp only [List.zip_cons_cons, List.map_cons, crcRun, List.foldl_cons]
    rw [crcStep_xor, crcStep_xor]
    exact this
theorem crcOf_mix (xs ys us : List Nat) (h1 : ys.length = xs.length) (h2 : us.length = xs.length) :
    crcOf ((xs.zip (ys.zip us)).map fun t => t.1 ^^^ t.2.1 ^^^ t.2.2) = crcOf xs ^^^ crcOf ys ^^^ crcOf us := by
  have := crcRun_mix 4294967295 4294967295 4294967295 xs ys us h1 h2
  rw [Nat.xor_self, Nat.zero_xor] at this
  unfold crcOf
  rw [this]
  rw [xor4 (crcRun 4294967295 xs) (crcRun 4294967295 ys) 4294967295, Nat.xor_assoc]
end Go.Proofs.Ytgehkioneelgcaa
