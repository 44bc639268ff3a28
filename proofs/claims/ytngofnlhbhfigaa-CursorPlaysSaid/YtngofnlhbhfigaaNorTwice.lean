/- The law NorTwice: its walk. -/
import Derived.Test.YtngofnlhbhfigaaNorOrder
namespace Go.Proofs.Ytngofnlhbhfigaa
open Go.RowKit

/-! ### A row whose first k bytes are edited -/
def edTo (f : Nat → Int) (os : List Int) (k : Nat) : List Int := (List.range os.length).map fun i => if i < k then f i else os.getD i 0
theorem edTo_zero (f : Nat → Int) (os : List Int) : edTo f os 0 = os := by
  unfold edTo
  apply List.ext_getElem?
  intro i
  by_cases hi : i < os.length <;> simp [List.getD, hi]
theorem edTo_succ (f : Nat → Int) (os : List Int) (k : Nat) (hk : k < os.length) : (edTo f os k).set k (f k) = edTo f os (k + 1) := by
  unfold edTo
  rw [range_set _ _ _ _ hk]
  refine List.map_congr_left fun i _ => ?_
  by_cases h1 : i = k
  · subst h1; simp
  · by_cases h2 : i < k
    · rw [if_neg h1, if_pos h2, if_pos (by omega)]
    · rw [if_neg h1, if_neg h2, if_neg (by omega)]
theorem edTo_length (f : Nat → Int) (os : List Int) (k : Nat) : (edTo f os k).length = os.length := by simp [edTo]
theorem edTo_getD (f : Nat → Int) (os : List Int) (k i : Nat) : (edTo f os k).getD i 0 = if i < os.length then (if i < k then f i else os.getD i 0) else 0 := by
  by_cases hi : i < os.length <;> simp [edTo, List.getD, hi]
theorem edTo_byte {f : Nat → Int} {os : List Int} (k : Nat) (ho : ∀ z ∈ os, 0 ≤ z ∧ z ≤ 255) (hf : ∀ i, 0 ≤ f i ∧ f i ≤ 255) : ∀ z ∈ edTo f os k, 0 ≤ z ∧ z ≤ 255 := by
  intro z hz
  obtain ⟨i, _, rfl⟩ := List.mem_map.1 hz
  split
  · exact hf i
  · exact byte_getD ho i

def andAt (os ns : List Int) (i : Nat) : Int := bits .and .u8 (os.getD i 0) (ns.getD i 0)
/-- What of os is left when the bits of ns are kept alone, where ns reaches. -/
def andN (os ns : List Int) : List Int := edTo (andAt os ns) os (min os.length ns.length)

theorem andN_byte {os ns : List Int} (ho : ∀ z ∈ os, 0 ≤ z ∧ z ≤ 255) (hn : ∀ z ∈ ns, 0 ≤ z ∧ z ≤ 255) : ∀ z ∈ andN os ns, 0 ≤ z ∧ z ≤ 255 :=
  edTo_byte _ ho fun i => bits_and_bd _ _ (byte_getD ho i) (byte_getD hn i)
theorem and_land (a b : Nat) : a &&& b &&& a = a &&& b := by
  apply Nat.eq_of_testBit_eq; intro i; simp only [Nat.testBit_and]; cases a.testBit i <;> simp
theorem land_lor (a b : Nat) : a &&& (a ||| b) = a := by
  apply Nat.eq_of_testBit_eq; intro i; simp only [Nat.testBit_and, Nat.testBit_or]; cases a.testBit i <;> simp
theorem canN_andN {os ns : List Int} (ho : ∀ z ∈ os, 0 ≤ z ∧ z ≤ 255) (hn : ∀ z ∈ ns, 0 ≤ z ∧ z ≤ 255) : canN os (andN os ns) = true := by
  refine (canN_iff ho (andN_byte ho hn)).2 ⟨by rw [andN, edTo_length], fun i => ?_⟩
  rw [andN, edTo_getD]
  split
  · split
    · have a := byte_getD ho i
      have b := byte_getD hn i
      rw [andAt, u8_and _ _ a.1 (by omega) b.1 (by omega), Int.toNat_natCast, and_land]
    · exact Nat.and_self _
  · simp
theorem tornTo_getD (os ns ps : List Int) (k i : Nat) : (tornTo os ns ps k).getD i 0 = if i < ns.length then (if i < k then tornAt os ns ps i else ns.getD i 0) else 0 := by
  by_cases hi : i < ns.length <;> simp [tornTo, List.getD, hi]
theorem tornAt_byte {os ns ps : List Int} (ho : ∀ z ∈ os, 0 ≤ z ∧ z ≤ 255) (hn : ∀ z ∈ ns, 0 ≤ z ∧ z ≤ 255) (hp : ∀ z ∈ ps, 0 ≤ z ∧ z ≤ 255) (i : Nat) : 0 ≤ tornAt os ns ps i ∧ tornAt os ns ps i ≤ 255 :=
  bits_or_bd _ _ (byte_getD hn i) (bits_and_bd _ _ (byte_getD ho i) (byte_getD hp i))
theorem tornN_byte {os ns ps : List Int} (ho : ∀ z ∈ os, 0 ≤ z ∧ z ≤ 255) (hn : ∀ z ∈ ns, 0 ≤ z ∧ z ≤ 255) (hp : ∀ z ∈ ps, 0 ≤ z ∧ z ≤ 255) : ∀ z ∈ tornN os ns ps, 0 ≤ z ∧ z ≤ 255 := by
  unfold tornN
  split
  · intro z hz
    obtain ⟨i, _, rfl⟩ := List.mem_map.1 hz
    split
    · exact tornAt_byte ho hn hp i
    · exact byte_getD hn i
  · simp
theorem canN_torn {os ns ps : List Int} (ho : ∀ z ∈ os, 0 ≤ z ∧ z ≤ 255) (hn : ∀ z ∈ ns, 0 ≤ z ∧ z ≤ 255) (hp : ∀ z ∈ ps, 0 ≤ z ∧ z ≤ 255) (hc : canN os ns = true) : canN (tornN os ns ps) ns = true := by
  refine (canN_iff (tornN_byte ho hn hp) hn).2 ⟨by rw [tornN, if_pos hc, tornTo_length], fun i => ?_⟩
  rw [tornN, if_pos hc, tornTo_getD]
  split
  · have a := byte_getD ho i
    have b := byte_getD hn i
    have c := byte_getD hp i
    have d := bits_and_bd _ _ a c
    rw [tornAt, u8_or _ _ b.1 (by omega) d.1 (by omega), Int.toNat_natCast, land_lor]
  · have e1 : ns.getD i 0 = 0 := by simp [List.getD, List.getElem?_eq_none (show ns.length ≤ i by omega)]
    rw [e1]; rfl
theorem blankN_byte (n : Int) : ∀ z ∈ blankN n, 0 ≤ z ∧ z ≤ 255 := by
  intro z hz; rw [List.eq_of_mem_replicate hz]; omega
theorem land_255 (a : Nat) (h : a ≤ 255) : a &&& 255 = a := by
  rw [show (255 : Nat) = 2 ^ 8 - 1 from rfl, Nat.and_two_pow_sub_one_eq_mod, Nat.mod_eq_of_lt (by omega)]
theorem canN_blank {os : List Int} (ho : ∀ z ∈ os, 0 ≤ z ∧ z ≤ 255) (hl : os.length ≤ 65536) : canN (blankN os.length) os = true := by
  have e : (max 0 (min (os.length : Int) 65536)).toNat = os.length := by omega
  refine (canN_iff (blankN_byte _) ho).2 ⟨by rw [blankN, List.length_replicate, e], fun i => ?_⟩
  by_cases hi : i < os.length
  · have e2 : (blankN os.length).getD i 0 = 255 := by rw [blankN, e]; simp [List.getD, hi]
    have a := byte_getD ho i
    rw [e2]; exact land_255 _ (by omega)
  · have e1 : os.getD i 0 = 0 := by simp [List.getD, List.getElem?_eq_none (show os.length ≤ i by omega)]
    rw [e1]; simp

/-! ### Contracts told from a world on -/
/-- A row of bytes is told, and nothing has changed that was there at V. -/
def ClonedB (V : World) (zs : List Int) (e : Ending) (w' : World) : Prop := ∃ A n cap, e = .returned (.slice A n cap) ∧ Hid (Bs w' A n cap zs) ∧ Hid (Below V.heap.size V w')
theorem cloned_below {V w : World} {zs : List Int} {f : FuncId} {args : Array Value} (hb : Below V.heap.size V w) (h : Calls Try.prog f args w (Cloned w zs)) : Calls Try.prog f args w (ClonedB V zs) :=
  h.mono fun e w' ⟨v, h1, h2, h3⟩ => by
    obtain ⟨A, cap, e1, e2, _⟩ := h2.shape
    subst e1
    exact ⟨A, _, cap, h1, e2, below_keeps hb h3 (fun _ h => h.elim)⟩
theorem below_far {W V w : World} (h : Below W.heap.size W V) (k : Below V.heap.size V w) : Below W.heap.size W w :=
  h.trans ⟨k.os, k.tape, k.output, k.size, fun i hi => k.block i (Nat.lt_of_lt_of_le hi h.size)⟩
theorem below_drew {V w : World} (h : Below V.heap.size V w) : Below V.heap.size V w.drew := ⟨h.os, h.tape, h.output, h.size, h.block⟩


end Go.Proofs.Ytngofnlhbhfigaa
