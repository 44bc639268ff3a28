/- Texts put together: NorOrder, NorTwice, BytesC, Fl, NorRef, NorRef2, FlMem, FlWrite, FlProg, FlErase, FlLaw. -/
import Derived.Test.YtfldgaiiniknpaaLCub
import Derived.Test.YtfldgaiiniknpaaLCua
import Derived.Laws.CopyOwn

/- The law NorOrder walked to the value true. -/
namespace Go.Proofs.Ytfldgaiiniknpaa
open Go.RowKit

/-! ### The plain law: what can be programmed goes one way. -/
theorem andNot_zero (a b : Nat) (ha : a < 256) (hb : b < 256) : a &&& (255 - b) = 0 ↔ a &&& b = a := by
  have e : ∀ i, (255 - b).testBit i = (decide (i < 8) && !b.testBit i) := fun i => by
    have := Nat.testBit_two_pow_sub_succ (x := b) (n := 8) hb i
    rwa [show 2 ^ 8 - (b + 1) = 255 - b by omega] at this
  have ha8 : ∀ i, a.testBit i = true → i < 8 := fun i hi => by
    rcases Nat.lt_or_ge i 8 with h | h
    · exact h
    · rw [Nat.testBit_lt_two_pow (Nat.lt_of_lt_of_le ha (by have := Nat.pow_le_pow_right (show 0 < 2 by decide) h; simpa using this))] at hi; cases hi
  constructor
  · intro h
    apply Nat.eq_of_testBit_eq
    intro i
    have h2 : (a &&& (255 - b)).testBit i = false := by rw [h]; simp
    rw [Nat.testBit_and, e] at h2
    rw [Nat.testBit_and]
    cases hai : a.testBit i
    · simp
    · have := ha8 i hai
      simpa [hai, this] using h2
  · intro h
    apply Nat.eq_of_testBit_eq
    intro i
    have h2 : (a &&& b).testBit i = a.testBit i := by rw [h]
    rw [Nat.testBit_and] at h2
    rw [Nat.testBit_and, e]
    cases hai : a.testBit i
    · simp
    · rw [hai] at h2
      have : b.testBit i = true := by simpa using h2
      simp [this]
theorem bits_andNot_zero (a b : Int) (ha : 0 ≤ a ∧ a ≤ 255) (hb : 0 ≤ b ∧ b ≤ 255) : bits .andNot .u8 a b = 0 ↔ a.toNat &&& b.toNat = a.toNat := by
  rw [u8_andNot a b ha.1 (by omega) hb.1 (by omega)]
  have := andNot_zero a.toNat b.toNat (by omega) (by omega)
  constructor
  · intro h; exact this.1 (by omega)
  · intro h; have := this.2 h; omega
theorem canN_iff {os ns : List Int} (ho : ∀ z ∈ os, 0 ≤ z ∧ z ≤ 255) (hn : ∀ z ∈ ns, 0 ≤ z ∧ z ≤ 255) :
    canN os ns = true ↔ os.length = ns.length ∧ ∀ i, (ns.getD i 0).toNat &&& (os.getD i 0).toNat = (ns.getD i 0).toNat := by
  simp only [canN, decide_eq_true_eq]
  constructor
  · rintro ⟨h1, h2⟩
    refine ⟨h1, fun i => ?_⟩
    by_cases hi : i < os.length
    · exact (bits_andNot_zero _ _ (byte_getD hn i) (byte_getD ho i)).1 (h2 i hi)
    · have e1 : ns.getD i 0 = 0 := by simp [List.getD, List.getElem?_eq_none (show ns.length ≤ i by omega)]
      rw [e1]; simp
  · rintro ⟨h1, h2⟩
    exact ⟨h1, fun i _ => (bits_andNot_zero _ _ (byte_getD hn i) (byte_getD ho i)).2 (h2 i)⟩
theorem canN_refl {os : List Int} (ho : ∀ z ∈ os, 0 ≤ z ∧ z ≤ 255) : canN os os = true := (canN_iff ho ho).2 ⟨rfl, fun i => Nat.and_self _⟩
theorem canN_anti {os ns : List Int} (ho : ∀ z ∈ os, 0 ≤ z ∧ z ≤ 255) (hn : ∀ z ∈ ns, 0 ≤ z ∧ z ≤ 255) (h1 : canN os ns = true) (h2 : canN ns os = true) : os = ns := by
  obtain ⟨l1, h1⟩ := (canN_iff ho hn).1 h1
  obtain ⟨_, h2⟩ := (canN_iff hn ho).1 h2
  apply List.ext_getElem?
  intro i
  by_cases hi : i < os.length
  · have e : (os.getD i 0).toNat = (ns.getD i 0).toNat := by
      have a1 := h1 i
      have a2 := h2 i
      rw [Nat.and_comm] at a2
      omega
    have b1 := byte_getD ho i
    have b2 := byte_getD hn i
    have : os.getD i 0 = ns.getD i 0 := by omega
    rw [getD_get 0 hi, getD_get 0 (show i < ns.length by omega)] at this
    rw [List.getElem?_eq_getElem hi, List.getElem?_eq_getElem (show i < ns.length by omega), this]
  · rw [List.getElem?_eq_none (by omega), List.getElem?_eq_none (by omega)]
theorem canN_trans {zs bs cs : List Int} (ha : ∀ z ∈ zs, 0 ≤ z ∧ z ≤ 255) (hb : ∀ z ∈ bs, 0 ≤ z ∧ z ≤ 255) (hc : ∀ z ∈ cs, 0 ≤ z ∧ z ≤ 255) (h1 : canN zs bs = true) (h2 : canN bs cs = true) : canN zs cs = true := by
  obtain ⟨l1, h1⟩ := (canN_iff ha hb).1 h1
  obtain ⟨l2, h2⟩ := (canN_iff hb hc).1 h2
  refine (canN_iff ha hc).2 ⟨by omega, fun i => ?_⟩
  rw [← h2 i, Nat.and_assoc, h1 i]

/-! ### The law's walk -/
/-- A bool is told, and nothing has changed that was there when the law began. -/
def ToldB (b : Bool) (W : World) (e : Ending) (w' : World) : Prop := e = .returned (.bool b) ∧ Hid (Below W.heap.size W w')
theorem told_below {W w : World} {b : Bool} {f : FuncId} {args : Array Value} (hb : Below W.heap.size W w) (h : Calls Try.prog f args w (Told b w)) : Calls Try.prog f args w (ToldB b W) :=
  h.mono fun _ _ ⟨h1, m, h2⟩ => ⟨h1, by rw [h2]; exact below_drewN hb m⟩
theorem same_below {W w : World} {b : Bool} {f : FuncId} {args : Array Value} (hb : Below W.heap.size W w) (h : Calls Try.prog f args w fun e w' => e = .returned (.bool b) ∧ w = w') : Calls Try.prog f args w (ToldB b W) :=
  h.mono fun _ _ ⟨h1, h2⟩ => ⟨h1, by rw [← h2]; exact hb⟩
theorem bs_below {W w : World} {A : Option Addr} {n cap : Nat} {zs : List Int} (h : Bs W A n cap zs) (hb : Below W.heap.size W w) : Bs w A n cap zs :=
  h.later ⟨hb.os, hb.tape, hb.output, hb.size, fun k hk _ => hb.block k hk⟩


end Go.Proofs.Ytfldgaiiniknpaa
/- The law NorTwice: its walk. -/
namespace Go.Proofs.Ytfldgaiiniknpaa
open Go.RowKit

/-! ### A row whose first k bytes are edited -/
def edTo (f : Nat → Int) (os : List Int) (k : Nat) : List Int := (List.range os.length).map fun i => if i < k then f i else os.getD i 0
theorem edTo_zero (f : Nat → Int) (os : List Int) : edTo f os 0 = os := by
  unfold edTo
  apply List.ext_getElem?
  intro i
  by_cases hi : i < os.length <;> simp [List.getD, hi]
theorem edTo_succ (f : Nat → Int) (os : List Int) (k : Nat) (hk : k < os.length) : (edTo f os k).set k (f k) = edTo f os (k + 1) := by
  unfold edTo
  rw [range_set _ _ _ _ hk]
  refine List.map_congr_left fun i _ => ?_
  by_cases h1 : i = k
  · subst h1; simp
  · by_cases h2 : i < k
    · rw [if_neg h1, if_pos h2, if_pos (by omega)]
    · rw [if_neg h1, if_neg h2, if_neg (by omega)]
theorem edTo_length (f : Nat → Int) (os : List Int) (k : Nat) : (edTo f os k).length = os.length := by simp [edTo]
theorem edTo_getD (f : Nat → Int) (os : List Int) (k i : Nat) : (edTo f os k).getD i 0 = if i < os.length then (if i < k then f i else os.getD i 0) else 0 := by
  by_cases hi : i < os.length <;> simp [edTo, List.getD, hi]
theorem edTo_byte {f : Nat → Int} {os : List Int} (k : Nat) (ho : ∀ z ∈ os, 0 ≤ z ∧ z ≤ 255) (hf : ∀ i, 0 ≤ f i ∧ f i ≤ 255) : ∀ z ∈ edTo f os k, 0 ≤ z ∧ z ≤ 255 := by
  intro z hz
  obtain ⟨i, _, rfl⟩ := List.mem_map.1 hz
  split
  · exact hf i
  · exact byte_getD ho i

def andAt (os ns : List Int) (i : Nat) : Int := bits .and .u8 (os.getD i 0) (ns.getD i 0)
/-- What of os is left when the bits of ns are kept alone, where ns reaches. -/
def andN (os ns : List Int) : List Int := edTo (andAt os ns) os (min os.length ns.length)

theorem andN_byte {os ns : List Int} (ho : ∀ z ∈ os, 0 ≤ z ∧ z ≤ 255) (hn : ∀ z ∈ ns, 0 ≤ z ∧ z ≤ 255) : ∀ z ∈ andN os ns, 0 ≤ z ∧ z ≤ 255 :=
  edTo_byte _ ho fun i => bits_and_bd _ _ (byte_getD ho i) (byte_getD hn i)
theorem and_land (a b : Nat) : a &&& b &&& a = a &&& b := by
  apply Nat.eq_of_testBit_eq; intro i; simp only [Nat.testBit_and]; cases a.testBit i <;> simp
theorem land_lor (a b : Nat) : a &&& (a ||| b) = a := by
  apply Nat.eq_of_testBit_eq; intro i; simp only [Nat.testBit_and, Nat.testBit_or]; cases a.testBit i <;> simp
theorem canN_andN {os ns : List Int} (ho : ∀ z ∈ os, 0 ≤ z ∧ z ≤ 255) (hn : ∀ z ∈ ns, 0 ≤ z ∧ z ≤ 255) : canN os (andN os ns) = true := by
  refine (canN_iff ho (andN_byte ho hn)).2 ⟨by rw [andN, edTo_length], fun i => ?_⟩
  rw [andN, edTo_getD]
  split
  · split
    · have a := byte_getD ho i
      have b := byte_getD hn i
      rw [andAt, u8_and _ _ a.1 (by omega) b.1 (by omega), Int.toNat_natCast, and_land]
    · exact Nat.and_self _
  · simp
theorem tornTo_getD (os ns ps : List Int) (k i : Nat) : (tornTo os ns ps k).getD i 0 = if i < ns.length then (if i < k then tornAt os ns ps i else ns.getD i 0) else 0 := by
  by_cases hi : i < ns.length <;> simp [tornTo, List.getD, hi]
theorem tornAt_byte {os ns ps : List Int} (ho : ∀ z ∈ os, 0 ≤ z ∧ z ≤ 255) (hn : ∀ z ∈ ns, 0 ≤ z ∧ z ≤ 255) (hp : ∀ z ∈ ps, 0 ≤ z ∧ z ≤ 255) (i : Nat) : 0 ≤ tornAt os ns ps i ∧ tornAt os ns ps i ≤ 255 :=
  bits_or_bd _ _ (byte_getD hn i) (bits_and_bd _ _ (byte_getD ho i) (byte_getD hp i))
theorem tornN_byte {os ns ps : List Int} (ho : ∀ z ∈ os, 0 ≤ z ∧ z ≤ 255) (hn : ∀ z ∈ ns, 0 ≤ z ∧ z ≤ 255) (hp : ∀ z ∈ ps, 0 ≤ z ∧ z ≤ 255) : ∀ z ∈ tornN os ns ps, 0 ≤ z ∧ z ≤ 255 := by
  unfold tornN
  split
  · intro z hz
    obtain ⟨i, _, rfl⟩ := List.mem_map.1 hz
    split
    · exact tornAt_byte ho hn hp i
    · exact byte_getD hn i
  · simp
theorem canN_torn {os ns ps : List Int} (ho : ∀ z ∈ os, 0 ≤ z ∧ z ≤ 255) (hn : ∀ z ∈ ns, 0 ≤ z ∧ z ≤ 255) (hp : ∀ z ∈ ps, 0 ≤ z ∧ z ≤ 255) (hc : canN os ns = true) : canN (tornN os ns ps) ns = true := by
  refine (canN_iff (tornN_byte ho hn hp) hn).2 ⟨by rw [tornN, if_pos hc, tornTo_length], fun i => ?_⟩
  rw [tornN, if_pos hc, tornTo_getD]
  split
  · have a := byte_getD ho i
    have b := byte_getD hn i
    have c := byte_getD hp i
    have d := bits_and_bd _ _ a c
    rw [tornAt, u8_or _ _ b.1 (by omega) d.1 (by omega), Int.toNat_natCast, land_lor]
  · have e1 : ns.getD i 0 = 0 := by simp [List.getD, List.getElem?_eq_none (show ns.length ≤ i by omega)]
    rw [e1]; rfl
theorem blankN_byte (n : Int) : ∀ z ∈ blankN n, 0 ≤ z ∧ z ≤ 255 := by
  intro z hz; rw [List.eq_of_mem_replicate hz]; omega
theorem land_255 (a : Nat) (h : a ≤ 255) : a &&& 255 = a := by
  rw [show (255 : Nat) = 2 ^ 8 - 1 from rfl, Nat.and_two_pow_sub_one_eq_mod, Nat.mod_eq_of_lt (by omega)]
theorem canN_blank {os : List Int} (ho : ∀ z ∈ os, 0 ≤ z ∧ z ≤ 255) (hl : os.length ≤ 65536) : canN (blankN os.length) os = true := by
  have e : (max 0 (min (os.length : Int) 65536)).toNat = os.length := by omega
  refine (canN_iff (blankN_byte _) ho).2 ⟨by rw [blankN, List.length_replicate, e], fun i => ?_⟩
  by_cases hi : i < os.length
  · have e2 : (blankN os.length).getD i 0 = 255 := by rw [blankN, e]; simp [List.getD, hi]
    have a := byte_getD ho i
    rw [e2]; exact land_255 _ (by omega)
  · have e1 : os.getD i 0 = 0 := by simp [List.getD, List.getElem?_eq_none (show os.length ≤ i by omega)]
    rw [e1]; simp

/-! ### Contracts told from a world on -/
/-- A row of bytes is told, and nothing has changed that was there at V. -/
def ClonedB (V : World) (zs : List Int) (e : Ending) (w' : World) : Prop := ∃ A n cap, e = .returned (.slice A n cap) ∧ Hid (Bs w' A n cap zs) ∧ Hid (Below V.heap.size V w')
theorem cloned_below {V w : World} {zs : List Int} {f : FuncId} {args : Array Value} (hb : Below V.heap.size V w) (h : Calls Try.prog f args w (Cloned w zs)) : Calls Try.prog f args w (ClonedB V zs) :=
  h.mono fun e w' ⟨v, h1, h2, h3⟩ => by
    obtain ⟨A, cap, e1, e2, _⟩ := h2.shape
    subst e1
    exact ⟨A, _, cap, h1, e2, below_keeps hb h3 (fun _ h => h.elim)⟩
theorem below_far {W V w : World} (h : Below W.heap.size W V) (k : Below V.heap.size V w) : Below W.heap.size W w :=
  h.trans ⟨k.os, k.tape, k.output, k.size, fun i hi => k.block i (Nat.lt_of_lt_of_le hi h.size)⟩
theorem below_drew {V w : World} (h : Below V.heap.size V w) : Below V.heap.size V w.drew := ⟨h.os, h.tape, h.output, h.size, h.block⟩


end Go.Proofs.Ytfldgaiiniknpaa
/- The built-in copy into a row that is known whole; a row of bytes cut, laid over. -/
namespace Go.Proofs.Ytfldgaiiniknpaa
open Go.RowKit

theorem Blk.laidRow {w : World} {g : Nat} {cs ds : List Value} {T : TypeId} (h : Blk w g cs T) : Blk (w.setRow g ds.toArray) g ds T := by
  unfold Blk at *
  simp only [World.setRow, Array.getElem?_modify, if_true, h]
  rfl
theorem keeps_laidRow {S : Nat → Prop} {a w : World} {g : Nat} {ds : Array Value} (h : Keeps S a w) (hg : g < a.heap.size → S g) : Keeps S a (w.setRow g ds) := by
  refine ⟨h.os, h.tape, h.output, by simpa [World.setRow] using h.size, fun i hi hn => ?_⟩
  rw [← h.block i hi hn]
  have hne : ¬ g = i := fun e => hn (by subst e; exact hg hi)
  simp [World.setRow, Array.getElem?_modify, hne]
theorem splice_nil {α : Type} (L : List α) (off : Nat) : splice L off [] = L := by simp [splice]
theorem splice_map {α β : Type} (f : α → β) (L : List α) (off : Nat) (X : List α) : (splice L off X).map f = splice (L.map f) off (X.map f) := by simp [splice, List.map_take, List.map_drop]
theorem splice_take {α : Type} (L : List α) (off n : Nat) (X : List α) (h : off + X.length ≤ n) (hn : n ≤ L.length) : (splice L off X).take n = splice (L.take n) off X := by
  simp only [splice]
  rw [List.take_append, List.take_append, List.take_take, List.length_take, List.drop_take, Nat.min_eq_right (by omega), Nat.min_eq_left (by omega), List.take_take, Nat.min_eq_left (by omega), List.take_of_length_le (l := X) (by omega), Nat.sub_sub]
theorem splice_getD (L : List Int) (off : Nat) (X : List Int) (h : off + X.length ≤ L.length) (i : Nat) : (splice L off X).getD i 0 = if off ≤ i ∧ i < off + X.length then X.getD (i - off) 0 else L.getD i 0 := by
  simp only [splice, List.getD]
  by_cases h1 : i < off
  · rw [if_neg (by omega), List.getElem?_append_left (by rw [List.length_take]; omega), List.getElem?_take, if_pos h1]
  · rw [List.getElem?_append_right (by rw [List.length_take]; omega), List.length_take, Nat.min_eq_left (by omega)]
    by_cases h2 : i < off + X.length
    · rw [if_pos ⟨by omega, h2⟩, List.getElem?_append_left (by omega)]
    · rw [if_neg (by omega), List.getElem?_append_right (by omega), List.getElem?_drop]
      congr 2; omega
theorem splice_byte {L X : List Int} {off : Nat} (h1 : ∀ z ∈ L, 0 ≤ z ∧ z ≤ 255) (h2 : ∀ z ∈ X, 0 ≤ z ∧ z ≤ 255) : ∀ z ∈ splice L off X, 0 ≤ z ∧ z ≤ 255 := by
  intro z hz
  simp only [splice, List.mem_append] at hz
  rcases hz with hz | hz | hz
  · exact h1 z (List.mem_of_mem_take hz)
  · exact h2 z hz
  · exact h1 z (List.mem_of_mem_drop hz)
theorem splice_len (L : List Int) (off : Nat) (X : List Int) (h : off + X.length ≤ L.length) : (splice L off X).length = L.length := length_splice L off X h

section
variable {ops : Array Oper} {rest : List Oper} {o : Oper} {a : Act} {Q : Exit → Act → World → Prop} {d s : Operand} {w : World}
theorem wpList_copy_blk {g off dLen dCap m c : Nat} {D A : Option Addr} {ns : List Int} {cs : List Value} {T : TypeId}
    (hgd : o.guard = none) (ho : o.op = .call { callee := .builtin .copy, args := #[d, s], argTypes := #[27, 27] }) (hd : a.eval d = .slice D dLen dCap) (hs : a.eval s = .slice A m c)
    (hD : 0 < min m dLen → D = some ⟨g, off, none⟩) (hb : Blk w g cs T) (hbs : Bs w A m c ns) (hfit : off + min m dLen ≤ cs.length)
    (h : ∀ w', Blk w' g (splice cs off ((ns.take dLen).map (.int .u8))) T → Keeps (fun k => k = g) w w' → wpList Try.prog ops Q rest (a.put o.dst (goInt ((min m dLen : Nat) : Int))) w') : wpList Try.prog ops Q (o :: rest) a w := by
  have hln : ((ns.take dLen).map (Value.int .u8)).length = min m dLen := by rw [List.length_map, List.length_take, hbs.len]; exact Nat.min_comm _ _
  have hi : (Try.prog.info? 5).map (·.size) = some 1 := by
    obtain ⟨i, hi, _, h1, _⟩ := info_parts Try.info5
    rw [hi]; simp [h1]
  by_cases h0 : min m dLen = 0
  · have e : (ns.take dLen).map (Value.int .u8) = [] := List.eq_nil_of_length_eq_zero (by rw [hln]; exact h0)
    have := h w (by rw [e, splice_nil]; exact hb) (Keeps.refl _ _)
    rw [h0] at this
    exact wpList_copy_nothing hgd d s _ _ ho 5 Try.underlying27 hi D A dLen dCap m c hd hs (by show min m dLen = 0; exact h0) this
  · obtain ⟨b, off2, e2, _, hc⟩ := hbs.at_ (by omega)
    have hD' := hD (by omega)
    subst hD'
    subst e2
    have := h (w.setRow g (cs.take off ++ ((ns.take dLen).map (Value.int .u8) ++ cs.drop (off + ((ns.take dLen).map (Value.int .u8)).length))).toArray) hb.laidRow (keeps_laidRow (Keeps.refl _ _) (fun _ => rfl))
    rw [← hln] at this
    refine wpList_copy_own hgd d s _ _ ho 5 Try.underlying27 hi g off dLen dCap ⟨b, off2, none⟩ m c hd hs cs.toArray T hb ((ns.take dLen).map (Value.int .u8)) hln ?_ (by rw [hln]; simpa using hfit) ?_ (by simpa using this)
    · intro j v hv
      have hj : j < (ns.take dLen).length := by
        rcases Nat.lt_or_ge j (ns.take dLen).length with h | h
        · exact h
        · rw [List.getElem?_eq_none (by simpa using h)] at hv; cases hv
      have hj2 : j < min m dLen := by rw [List.length_map] at hln; omega
      have e3 : (⟨b, off2, none⟩ : Addr).add j = ⟨b, off2 + j, none⟩ := by unfold Addr.add; split <;> simp_all
      rw [e3, hc j (by omega), ← hv, map_getD 0 hj]
      simp [List.getD, List.getElem?_take, show j < dLen by omega]
    · intro v hv
      obtain ⟨z, _, rfl⟩ := List.mem_map.1 hv
      rfl

theorem Own.row {B g n cap : Nat} {zs : List Int} (h : Own w B (.slice (some ⟨g, 0, none⟩) n cap) zs) : ∃ cur : List Value, Blk w g cur 5 ∧ cur.length = cap ∧ cur.take n = zs.map (.int .u8) ∧ n = zs.length ∧ n ≤ cap ∧ cap ≤ 9223372036854775807 ∧ B ≤ g := by
  rcases h.1.2 with ⟨e, h0⟩ | ⟨g', cap', cur, e, hb, hg, hn, hm, hs, ht⟩
  · cases e
  · cases e
    refine ⟨cur.toList, ?_, by simpa using hs, by simpa using ht, rfl, hn, by unfold maxLen at hm; omega, hb⟩
    unfold Blk; simpa using hg
theorem Own.ofRow {B g n cap : Nat} {zs : List Int} {cur : List Value} (hb : Blk w g cur 5) (hl : cur.length = cap) (ht : cur.take n = zs.map (.int .u8)) (hn : n = zs.length) (hc : n ≤ cap) (hm : cap ≤ 9223372036854775807) (hB : B ≤ g) (hz : ∀ z ∈ zs, 0 ≤ z ∧ z ≤ 255) :
    Own w B (.slice (some ⟨g, 0, none⟩) n cap) zs := by
  subst hn
  refine ⟨⟨by simp, .inr ⟨g, cap, cur.toArray, rfl, hB, hb, hc, by unfold maxLen; omega, by simpa using hl, by simpa using ht⟩⟩, hz⟩

theorem wpList_copy_bs {B g off n cap dLen dCap m c : Nat} {D A : Option Addr} {zs ns : List Int}
    (hgd : o.guard = none) (ho : o.op = .call { callee := .builtin .copy, args := #[d, s], argTypes := #[27, 27] }) (hd : a.eval d = .slice D dLen dCap) (hs : a.eval s = .slice A m c)
    (hD : 0 < min m dLen → D = some ⟨g, off, none⟩) (hown : Own w B (.slice (some ⟨g, 0, none⟩) n cap) zs) (hbs : Bs w A m c ns) (hfit : off + min m dLen ≤ n)
    (h : ∀ w', Own w' B (.slice (some ⟨g, 0, none⟩) n cap) (splice zs off (ns.take dLen)) → Keeps (fun k => k = g) w w' → wpList Try.prog ops Q rest (a.put o.dst (goInt ((min m dLen : Nat) : Int))) w') : wpList Try.prog ops Q (o :: rest) a w := by
  obtain ⟨cur, h1, h2, h3, h4, h5, h6, h7⟩ := hown.row
  have hl : (ns.take dLen).length = min m dLen := by rw [List.length_take, hbs.len]; exact Nat.min_comm _ _
  refine wpList_copy_blk hgd ho hd hs hD h1 hbs (by omega) fun w' hb hk => h w' ?_ hk
  have hlm : ((ns.take dLen).map (Value.int .u8)).length = min m dLen := by rw [List.length_map]; exact hl
  refine Own.ofRow hb (by rw [length_splice _ _ _ (by rw [hlm]; omega)]; exact h2) ?_ (by rw [splice_len _ _ _ (by rw [hl]; omega)]; exact h4) h5 h6 h7 (splice_byte hown.2 (fun z hz => hbs.byte z (List.mem_of_mem_take hz)))
  rw [splice_take _ _ _ _ (by rw [hlm]; omega) (by omega), h3, splice_map]
end
theorem ownBs {w : World} {X : Nat} {A : Option Addr} {n cap : Nat} {l : List Int} (h : Own w X (.slice A n cap) l) : Bs w A n cap l := by
  obtain ⟨A', cap', e, hb, -⟩ := h.shape
  cases e
  exact hb
end Go.Proofs.Ytfldgaiiniknpaa
/- The plain law of a flash: what its calls do to bytes, erasures, steps. -/
namespace Go.Proofs.Ytfldgaiiniknpaa
open Go.RowKit

/-- A flash: its bytes, how often each sector was erased, the steps; how many steps go ahead of the broken one (-1: none is broken); what is left of the broken step; is there no power? -/
structure FS where
  b : List Int
  er : List Int
  steps : Int
  left : Int
  pick : List Int
  dark : Bool
def FS.stepped (s : FS) : FS :=
  if s.left < 0 then { s with steps := s.steps + 1 } else if s.left = 0 then { s with steps := s.steps + 1, left := -1, pick := [], dark := true } else { s with steps := s.steps + 1, left := s.left - 1 }
def withinB (at_ n size : Int) : Bool := decide (0 ≤ at_ ∧ 0 ≤ n ∧ at_ ≤ size ∧ n ≤ size - at_)
def FS.readF (s : FS) (at_ n : Int) : List Int × Int :=
  if s.dark = true then ([], 5) else if withinB at_ n s.b.length = true then ((s.b.drop at_.toNat).take n.toNat, 0) else ([], 2)
def FS.peekF (s : FS) (at_ n : Int) : List Int := if withinB at_ n s.b.length = true then (s.b.drop at_.toNat).take n.toNat else []
/-- Words programmed one behind the other, as far as there is power. -/
def progW : Nat → FS → Nat → List Int → FS × Int
  | 0, s, _, _ => (s, 0)
  | k + 1, s, at_, ws =>
    if s.left = 0 then ({ s.stepped with b := splice s.b at_ (tornN ((s.b.drop at_).take 8) (ws.take 8) s.pick) }, 5)
    else progW k { s.stepped with b := splice s.b at_ (ws.take 8) } (at_ + 8) (ws.drop 8)
def FS.progF (s : FS) (at_ : Int) (zs : List Int) : FS × Int :=
  if s.dark = true then (s, 5) else if withinB at_ zs.length s.b.length = false then (s, 2) else if at_ % 8 ≠ 0 ∨ zs.length % 8 ≠ 0 then (s, 3)
  else if canN ((s.b.drop at_.toNat).take zs.length) zs = false then (s, 4) else progW (zs.length / 8) s at_.toNat zs
def FS.erased (s : FS) (k : Nat) : FS := { s with er := s.er.set k (s.er.getD k 0 + 1) }
def FS.eraseF (s : FS) (k : Int) : FS × Int :=
  if s.dark = true then (s, 5) else if k < 0 ∨ s.er.length ≤ k then (s, 2)
  else if s.left = 0 then ({ (s.erased k.toNat).stepped with b := splice s.b (1024 * k.toNat) (halfN ((s.b.drop (1024 * k.toNat)).take 1024) s.pick) }, 5)
  else ({ (s.erased k.toNat).stepped with b := splice s.b (1024 * k.toNat) (List.replicate 1024 255) }, 0)
def FS.armF (s : FS) (after : Int) (pick : List Int) : FS := if after < 0 then { s with left := -1, pick := [] } else { s with left := after, pick := pick }
def FS.bootF (s : FS) : FS := { s with left := -1, pick := [], dark := false }
def FS.spoilF (s : FS) (at_ : Int) (zs : List Int) : FS × Int :=
  if withinB at_ zs.length s.b.length = true then ({ s with b := splice s.b at_.toNat zs }, 0) else (s, 2)
def FS.erasesF (s : FS) (k : Int) : Int := if k < 0 ∨ s.er.length ≤ k then 0 else s.er.getD k.toNat 0
def newF (n : Int) : FS := { b := List.replicate (1024 * (max 1 (min n 256)).toNat) 255, er := List.replicate (max 1 (min n 256)).toNat 0, steps := 0, left := -1, pick := [], dark := false }

theorem FS.stepped_b (s : FS) : s.stepped.b = s.b := by unfold FS.stepped; split <;> (try split) <;> rfl
theorem FS.stepped_er (s : FS) : s.stepped.er = s.er := by unfold FS.stepped; split <;> (try split) <;> rfl
theorem FS.stepped_steps (s : FS) : s.stepped.steps = s.steps + 1 := by unfold FS.stepped; split <;> (try split) <;> rfl

/-- Can words be programmed: each by itself. -/
theorem canN_take {os ns : List Int} (h : canN os ns = true) (k : Nat) : canN (os.take k) (ns.take k) = true := by
  simp only [canN, decide_eq_true_eq] at h ⊢
  obtain ⟨h1, h2⟩ := h
  refine ⟨by rw [List.length_take, List.length_take, h1], fun i hi => ?_⟩
  rw [List.length_take] at hi
  have := h2 i (by omega)
  simpa [List.getD, List.getElem?_take, show i < k by omega] using this
theorem canN_drop {os ns : List Int} (h : canN os ns = true) (k : Nat) : canN (os.drop k) (ns.drop k) = true := by
  simp only [canN, decide_eq_true_eq] at h ⊢
  obtain ⟨h1, h2⟩ := h
  refine ⟨by rw [List.length_drop, List.length_drop, h1], fun i hi => ?_⟩
  rw [List.length_drop] at hi
  have := h2 (k + i) (by omega)
  simpa [List.getD, List.getElem?_drop] using this
theorem splice_drop (L : List Int) (off k : Nat) (X : List Int) (h : off + X.length ≤ k) (hl : off + X.length ≤ L.length) : (splice L off X).drop k = L.drop k := by
  apply List.ext_getElem?
  intro i
  rw [List.getElem?_drop, List.getElem?_drop]
  simp only [splice]
  rw [List.getElem?_append_right (by rw [List.length_take]; omega), List.length_take, Nat.min_eq_left (by omega), List.getElem?_append_right (by omega), List.getElem?_drop]
  congr 1; omega
end Go.Proofs.Ytfldgaiiniknpaa
/- The walks of the reference's functions on cells: bit, picked, Can, Program, Torn, Between, Half, Risen, IsBlank. -/
namespace Go.Proofs.Ytfldgaiiniknpaa
open Go.RowKit

theorem test_eq (x k : Nat) : x.testBit k = decide (x / 2 ^ k % 2 = 1) := Nat.testBit_eq_decide_div_mod_eq
theorem byte_high {a k : Nat} (ha : a < 256) (hk : 8 ≤ k) : a.testBit k = false :=
  Nat.testBit_lt_two_pow (Nat.lt_of_lt_of_le ha (by have := Nat.pow_le_pow_right (show 0 < 2 by decide) hk; simpa using this))
theorem byte_bits {a b : Nat} (ha : a < 256) : a &&& b = a ↔ ∀ k, k < 8 → a / 2 ^ k % 2 ≤ b / 2 ^ k % 2 := by
  constructor
  · intro h k _
    have h2 : (a &&& b).testBit k = a.testBit k := by rw [h]
    rw [Nat.testBit_and, test_eq, test_eq] at h2
    by_cases h3 : a / 2 ^ k % 2 = 1
    · rw [h3] at h2; simp at h2; omega
    · omega
  · intro h
    apply Nat.eq_of_testBit_eq
    intro k
    rw [Nat.testBit_and]
    by_cases hk : k < 8
    · have := h k hk
      rw [test_eq, test_eq]
      by_cases h3 : a / 2 ^ k % 2 = 1
      · have h4 : b / 2 ^ k % 2 = 1 := by omega
        rw [h3, h4]; rfl
      · simp [h3]
    · rw [byte_high ha (by omega)]; rfl
/-- The bits of p that o lacks, laid onto o, the lowest k of them. -/
def onto (o p k : Nat) : Nat := o ||| (p &&& (2 ^ k - 1))
theorem onto_zero (o p : Nat) : onto o p 0 = o := by simp [onto]
theorem onto_all (o p : Nat) (hp : p < 256) : onto o p 8 = o ||| p := by
  unfold onto
  rw [Nat.and_two_pow_sub_one_eq_mod, Nat.mod_eq_of_lt hp]
theorem onto_lt (o p k : Nat) (ho : o < 256) (hp : p < 256) : onto o p k < 256 := by
  unfold onto
  have : p &&& (2 ^ k - 1) ≤ p := Nat.and_le_left
  exact Nat.or_lt_two_pow (n := 8) ho (by omega)
theorem onto_test (o p k i : Nat) : (onto o p k).testBit i = (o.testBit i || (p.testBit i && decide (i < k))) := by
  simp [onto, Nat.testBit_or, Nat.testBit_and, Nat.testBit_two_pow_sub_one, Bool.and_comm]
theorem onto_stay (o p k : Nat) (h : ¬ (o / 2 ^ k % 2 = 0 ∧ p / 2 ^ k % 2 = 1)) : onto o p (k + 1) = onto o p k := by
  apply Nat.eq_of_testBit_eq
  intro i
  rw [onto_test, onto_test]
  by_cases e : i = k
  · subst e
    rw [test_eq, test_eq]
    by_cases h1 : o / 2 ^ i % 2 = 1
    · simp [h1]
    · have : ¬ p / 2 ^ i % 2 = 1 := fun h2 => h ⟨by omega, h2⟩
      simp [this]
  · have : decide (i < k + 1) = decide (i < k) := by simp; omega
    rw [this]
theorem add_bit : ∀ (x : Fin 256) (k : Fin 8), x.val / 2 ^ k.val % 2 = 0 → x.val + 2 ^ k.val = x.val ||| 2 ^ k.val ∧ x.val + 2 ^ k.val < 256 := by decide +kernel
theorem onto_add (o p k : Nat) (ho : o < 256) (hp : p < 256) (hk : k < 8) (h1 : o / 2 ^ k % 2 = 0) (h2 : p / 2 ^ k % 2 = 1) : onto o p (k + 1) = onto o p k + 2 ^ k ∧ onto o p k + 2 ^ k < 256 := by
  have hl := onto_lt o p k ho hp
  have hb : (onto o p k).testBit k = false := by rw [onto_test, test_eq, h1]; simp
  have hz : onto o p k / 2 ^ k % 2 = 0 := by
    rw [test_eq] at hb
    have := of_decide_eq_false hb
    omega
  obtain ⟨e1, e2⟩ := add_bit ⟨_, hl⟩ ⟨k, hk⟩ hz
  refine ⟨?_, e2⟩
  simp only at e1
  rw [e1]
  apply Nat.eq_of_testBit_eq
  intro i
  rw [onto_test, Nat.testBit_or, onto_test, Nat.testBit_two_pow]
  by_cases e : i = k
  · subst e
    rw [test_eq p, h2]; simp
  · have : decide (i < k + 1) = decide (i < k) := by simp; omega
    have h3 : decide (k = i) = false := by simp; omega
    rw [this, h3, Bool.or_false]

/-- A value, and the world as it was. -/
def Same (v : Value) (w : World) (e : Ending) (w' : World) : Prop := e = .returned v ∧ w = w'
theorem Same.to {v v' : Value} {w w' : World} {e : Ending} (h : Same v w e w') (hv : v = v') : Same v' w e w' := by rw [← hv]; exact h

theorem and_bit (a b k : Nat) : (a &&& b) / 2 ^ k % 2 = 1 ↔ a / 2 ^ k % 2 = 1 ∧ b / 2 ^ k % 2 = 1 := by
  have := Nat.testBit_and a b k
  rw [test_eq, test_eq, test_eq] at this
  constructor
  · intro h; rw [h] at this; simpa using this.symm
  · rintro ⟨h1, h2⟩; rw [h1, h2] at this; simpa using this
theorem set_getD_self (l : List Int) (k : Nat) : l.set k (l.getD k 0) = l := by
  apply List.ext_getElem?
  intro i
  by_cases hi : i < l.length
  · by_cases e : i = k
    · subst e; simp [List.getD, hi]
    · have : k ≠ i := fun h => e h.symm
      simp [List.getElem?_set, this]
  · rw [List.getElem?_eq_none (by simpa using Nat.le_of_not_lt hi), List.getElem?_eq_none (Nat.le_of_not_lt hi)]

end Go.Proofs.Ytfldgaiiniknpaa
/- The walks of the reference's functions on cells: Program, Torn, Between, Half, Risen. -/
namespace Go.Proofs.Ytfldgaiiniknpaa
open Go.RowKit

theorem getD_set_self (l : List Int) (k : Nat) (v : Int) (h : k < l.length) : (l.set k v).getD k 0 = v := by simp [List.getD, h]
theorem Own.cellAt {w : World} {B : Nat} {g n cap : Nat} {zs : List Int} (h : Own w B (.slice (some ⟨g, 0, none⟩) n cap) zs) {k : Nat} (hk : k < n) :
    w.cell? ⟨g, k, none⟩ = some (.int .u8 (zs.getD k 0)) ∧ w.frozen? ⟨g, k, none⟩ = false := by
  obtain ⟨g', e, _, _, _, _, _, h1, h2⟩ := h.at_ hk
  cases e
  exact ⟨h1, h2⟩



end Go.Proofs.Ytfldgaiiniknpaa
/- A flash in memory; the walks of the calls that only tell: within, Size, Peek, Read, Off, Erases, Steps. -/
namespace Go.Proofs.Ytfldgaiiniknpaa
open Go.RowKit

/-- Where a flash lies: its own block, its bytes' (N of capb), its erasures' (n); what stands in its field 'after'; its pick. -/
structure FL where
  bf : Nat
  gb : Nat
  ge : Nat
  N : Nat
  capb : Nat
  n : Nat
  af : Int
  pA : Option Addr
  pc : Nat
  pk : List Int
def FL.S (L : FL) (k : Nat) : Prop := k = L.bf ∨ k = L.gb ∨ k = L.ge
def FL.pv (L : FL) : Value := .slice L.pA L.pk.length L.pc
def FL.O (L : FL) (k : Nat) : Prop := L.S k ∨ L.pv.ownBlock = some k
def FL.p (L : FL) : Value := .pointer (some ⟨L.bf, 0, none⟩)
structure FAt (w : World) (B : Nat) (L : FL) (s : FS) : Prop where
  f : Blk w L.bf [.slice (some ⟨L.gb, 0, none⟩) L.N L.capb, .slice (some ⟨L.ge, 0, none⟩) L.n L.n, .int .i64 s.steps, .bool s.dark, .bool (decide (0 ≤ s.left)), .int .i64 L.af, .slice L.pA L.pk.length L.pc] 81
  b : Own w B (.slice (some ⟨L.gb, 0, none⟩) L.N L.capb) s.b
  e : Blk w L.ge (s.er.map (.int .i64)) 3
  p : Own w B L.pv L.pk
  el : s.er.length = L.n
  armed : 0 ≤ s.left → L.af = s.left ∧ L.pk = s.pick
  lm : -1 ≤ s.left
  lx : s.left ≤ 9223372036854775807
  nN : L.N = 1024 * L.n
  n0 : 1 ≤ L.n
  n9 : L.n ≤ 256
  bB : B ≤ L.bf
  eB : B ≤ L.ge
  d1 : L.bf ≠ L.gb
  d2 : L.bf ≠ L.ge
  d3 : L.gb ≠ L.ge
  pn : ∀ g, L.pv.ownBlock = some g → ¬ L.S g
theorem FAt.keeps {w w' : World} {B : Nat} {L : FL} {s : FS} {S : Nat → Prop} (h : FAt w B L s) (hk : Keeps S w w') (hS : ∀ k, L.O k → ¬ S k) : FAt w' B L s :=
  ⟨hk.blk h.f (hS _ (.inl (.inl rfl))), h.b.keeps hk (fun b e => by cases e; exact hS _ (.inl (.inr (.inl rfl)))), hk.blk h.e (hS _ (.inl (.inr (.inr rfl)))), h.p.keeps hk (fun b e => hS _ (.inr e)),
    h.el, h.armed, h.lm, h.lx, h.nN, h.n0, h.n9, h.bB, h.eB, h.d1, h.d2, h.d3, h.pn⟩
theorem FAt.later {w w' : World} {B : Nat} {L : FL} {s : FS} (h : FAt w B L s) (hk : Keeps None w w') : FAt w' B L s := h.keeps hk (fun _ _ h => h)
theorem FAt.drew {w : World} {B : Nat} {L : FL} {s : FS} (h : FAt w B L s) : FAt w.drew B L s := h.later (Keeps.refl None w).drew
theorem FAt.alloc {w : World} {B : Nat} {L : FL} {s : FS} (h : FAt w B L s) (o : Obj) : FAt (w.alloc o) B L s := h.later ((Keeps.refl None w).alloc o)
theorem FAt.bs {w : World} {B : Nat} {L : FL} {s : FS} (h : FAt w B L s) : Bs w (some ⟨L.gb, 0, none⟩) L.N L.capb s.b := ownBs h.b
theorem FAt.bl {w : World} {B : Nat} {L : FL} {s : FS} (h : FAt w B L s) : s.b.length = L.N := h.bs.len
theorem FAt.lt {w : World} {B : Nat} {L : FL} {s : FS} (h : FAt w B L s) : ∀ k, L.O k → k < w.heap.size := by
  intro k hk
  rcases hk with (rfl | rfl | rfl) | hp
  · exact h.f.lt
  · obtain ⟨cur, hb, _⟩ := h.b.row; exact hb.lt
  · exact h.e.lt
  · obtain ⟨A, cap, e, _, h3⟩ := h.p.shape
    rw [e] at hp
    cases A with
    | none => cases hp
    | some ad =>
      have hp' : ad.block = k := by simpa [Value.ownBlock] using hp
      rcases h.p.1.2 with ⟨e0, _⟩ | ⟨g, cap', cur, e1, hb, hg, _⟩
      · rw [e] at e0; cases e0
      · rw [e] at e1; cases e1
        obtain rfl : g = k := hp'
        exact (Array.getElem?_eq_some_iff.1 hg).1
theorem FAt.low {w : World} {B : Nat} {L : FL} {s : FS} (h : FAt w B L s) : ∀ k, L.O k → B ≤ k := by
  intro k hk
  rcases hk with (rfl | rfl | rfl) | hp
  · exact h.bB
  · obtain ⟨cur, hb, _, _, _, _, _, h7⟩ := h.b.row; exact h7
  · exact h.eB
  · exact Nat.le_of_not_lt fun hlt => h.p.notBelow hlt hp


set_option maxRecDepth 100000 in
theorem fwithin_any (B : Nat) (L : FL) (s : FS) (a m : Int) (w : World) (h : FAt w B L s) : Calls Try.prog 85 #[L.p, .int .i64 a, .int .i64 m] w (Same (.bool (withinB a m L.N)) w) := by
  obtain ⟨bf, gb, ge, N, capb, n, af, pA, pc, pk⟩ := L
  have c0 := h.f.cellD 0 _ rfl
  have c1 := h.f.cellD 1 _ rfl
  have c2 := h.f.cellD 2 _ rfl
  have c3 := h.f.cellD 3 _ rfl
  have c4 := h.f.cellD 4 _ rfl
  have c5 := h.f.cellD 5 _ rfl
  have c6 := h.f.cellD 6 _ rfl
  have hcap := h.bs.le
  have hcmx := h.bs.max
  have hN := h.nN
  have hn0 := h.n0
  have hn9 := h.n9
  have H := Lib.hid h
  simp only [] at c0 c1 c2 c3 c4 c5 c6 hcap hcmx hN hn0 hn9
  have hNb : N ≤ 262144 := by omega
  have hN1 : 1024 ≤ N := by omega
  have HN := Lib.hid hN
  clear h hN
  simp only [FL.p, FL.pv]
  have WI : Hid (withinB a m N = (decide (0 ≤ a) && decide (0 ≤ m) && decide (a ≤ N) && decide (m ≤ N - a))) := by
    show withinB a m N = _
    unfold withinB
    by_cases q1 : 0 ≤ a <;> by_cases q2 : 0 ≤ m <;> by_cases q3 : a ≤ N <;> by_cases q4 : m ≤ N - a <;> simp [q1, q2, q3, q4]
  by_cases q1 : 0 ≤ a
  · have e1 : decide (0 ≤ a) = true := decide_eq_true q1
    by_cases q2 : 0 ≤ m
    · have e2 : decide (0 ≤ m) = true := decide_eq_true q2
      by_cases q3 : a ≤ N
      · have e3 : decide (a ≤ N) = true := decide_eq_true q3
        rw [e1, e2, e3] at WI
        go_enter Try.func85, Try.ntmps85
        go_wp2
        go_ret
        exact ⟨ret_bool (by rw [WI.out]; simp), rfl⟩
      · have e3 : decide (a ≤ N) = false := decide_eq_false q3
        rw [e1, e2, e3] at WI
        go_enter Try.func85, Try.ntmps85
        go_wp2
        go_ret
        exact ⟨ret_bool (by rw [WI.out]; simp), rfl⟩
    · have e2 : decide (0 ≤ m) = false := decide_eq_false q2
      rw [e1, e2] at WI
      go_enter Try.func85, Try.ntmps85
      go_wp2
      go_ret
      exact ⟨ret_bool (by rw [WI.out]; simp), rfl⟩
  · have e1 : decide (0 ≤ a) = false := decide_eq_false q1
    rw [e1] at WI
    go_enter Try.func85, Try.ntmps85
    go_wp2
    go_ret
    exact ⟨ret_bool (by rw [WI.out]; simp), rfl⟩

set_option maxRecDepth 100000 in
theorem fsize_any (B : Nat) (L : FL) (s : FS) (w : World) (h : FAt w B L s) : Calls Try.prog 56 #[L.p] w (Same (.int .i64 L.N) w) := by
  obtain ⟨bf, gb, ge, N, capb, n, af, pA, pc, pk⟩ := L
  have c0 := h.f.cellD 0 _ rfl
  have c1 := h.f.cellD 1 _ rfl
  have c2 := h.f.cellD 2 _ rfl
  have c3 := h.f.cellD 3 _ rfl
  have c4 := h.f.cellD 4 _ rfl
  have c5 := h.f.cellD 5 _ rfl
  have c6 := h.f.cellD 6 _ rfl
  have hcap := h.bs.le
  have hcmx := h.bs.max
  have hN := h.nN
  have hn0 := h.n0
  have hn9 := h.n9
  have H := Lib.hid h
  simp only [] at c0 c1 c2 c3 c4 c5 c6 hcap hcmx hN hn0 hn9
  have hNb : N ≤ 262144 := by omega
  have hN1 : 1024 ≤ N := by omega
  have HN := Lib.hid hN
  clear h hN
  simp only [FL.p, FL.pv]
  go_enter Try.func56, Try.ntmps56
  go_wp2
  go_ret
  exact ⟨rfl, rfl⟩
theorem foff_any (B : Nat) (L : FL) (s : FS) (w : World) (h : FAt w B L s) : Calls Try.prog 84 #[L.p] w (Same (.bool s.dark) w) := by
  obtain ⟨bf, gb, ge, N, capb, n, af, pA, pc, pk⟩ := L
  have c0 := h.f.cellD 0 _ rfl
  have c1 := h.f.cellD 1 _ rfl
  have c2 := h.f.cellD 2 _ rfl
  have c3 := h.f.cellD 3 _ rfl
  have c4 := h.f.cellD 4 _ rfl
  have c5 := h.f.cellD 5 _ rfl
  have c6 := h.f.cellD 6 _ rfl
  have hcap := h.bs.le
  have hcmx := h.bs.max
  have hN := h.nN
  have hn0 := h.n0
  have hn9 := h.n9
  have H := Lib.hid h
  simp only [] at c0 c1 c2 c3 c4 c5 c6 hcap hcmx hN hn0 hn9
  have hNb : N ≤ 262144 := by omega
  have hN1 : 1024 ≤ N := by omega
  have HN := Lib.hid hN
  clear h hN
  simp only [FL.p, FL.pv]
  go_enter Try.func84, Try.ntmps84
  go_wp2
  go_ret
  exact ⟨rfl, rfl⟩

theorem within_nat {a m : Int} {N : Nat} (h : withinB a m N = true) : ∃ i j : Nat, a = i ∧ m = j ∧ i + j ≤ N := by
  have := of_decide_eq_true h
  exact ⟨a.toNat, m.toNat, by omega, by omega, by omega⟩

set_option maxRecDepth 100000 in
theorem fpeek_any (B : Nat) (L : FL) (s : FS) (a m : Int) (w : World) (h : FAt w B L s) : Calls Try.prog 86 #[L.p, .int .i64 a, .int .i64 m] w (Cloned w (s.peekF a m)) := by
  have WI := Lib.hid (fwithin_any B L s a m w h)
  have hbl := h.bl
  have hpk : s.peekF a m = if withinB a m L.N = true then (s.b.drop a.toNat).take m.toNat else [] := by unfold FS.peekF; rw [hbl]
  cases hw : withinB a m L.N with
  | false =>
    rw [hw] at WI hpk
    rw [if_neg (by decide)] at hpk
    rw [hpk]
    clear hpk hw hbl
    obtain ⟨bf, gb, ge, N, capb, n, af, pA, pc, pk⟩ := L
    have c0 := h.f.cellD 0 _ rfl
    have c1 := h.f.cellD 1 _ rfl
    have c2 := h.f.cellD 2 _ rfl
    have c3 := h.f.cellD 3 _ rfl
    have c4 := h.f.cellD 4 _ rfl
    have c5 := h.f.cellD 5 _ rfl
    have c6 := h.f.cellD 6 _ rfl
    have hcap := h.bs.le
    have hcmx := h.bs.max
    have hN := h.nN
    have hn0 := h.n0
    have hn9 := h.n9
    have H := Lib.hid h
    simp only [] at c0 c1 c2 c3 c4 c5 c6 hcap hcmx hN hn0 hn9
    have hNb : N ≤ 262144 := by omega
    have hN1 : 1024 ≤ N := by omega
    have HN := Lib.hid hN
    clear h hN
    simp only [FL.p, FL.pv]
    simp only [FL.p] at WI
    go_enter Try.func86, Try.ntmps86
    go_wp2_with fail
    refine WI.out.mono ?_
    rintro e w' ⟨rfl, rfl⟩
    go_wp2
    go_ret
    exact ⟨_, rfl, Own.nil _ _, Keeps.refl _ _⟩
  | true =>
    rw [hw] at WI hpk
    rw [if_pos rfl] at hpk
    obtain ⟨i, j, rfl, rfl, hij⟩ := within_nat hw
    rw [hpk]
    simp only [Int.toNat_natCast]
    clear hpk hw hbl
    obtain ⟨bf, gb, ge, N, capb, n, af, pA, pc, pk⟩ := L
    have c0 := h.f.cellD 0 _ rfl
    have c1 := h.f.cellD 1 _ rfl
    have c2 := h.f.cellD 2 _ rfl
    have c3 := h.f.cellD 3 _ rfl
    have c4 := h.f.cellD 4 _ rfl
    have c5 := h.f.cellD 5 _ rfl
    have c6 := h.f.cellD 6 _ rfl
    have hcap := h.bs.le
    have hcmx := h.bs.max
    have hN := h.nN
    have hn0 := h.n0
    have hn9 := h.n9
    have H := Lib.hid h
    simp only [] at c0 c1 c2 c3 c4 c5 c6 hcap hcmx hN hn0 hn9
    have hNb : N ≤ 262144 := by omega
    have hN1 : 1024 ≤ N := by omega
    have HN := Lib.hid hN
    clear h hN
    simp only [FL.p, FL.pv]
    simp only [FL.p] at WI
    simp only [] at hij
    have DB := Lib.hid (Bs.take (k := j) (H.out.bs.drop (k := i) (by show i ≤ N; omega)) (by show j ≤ N - i; omega))
    simp only [Nat.zero_add] at DB
    have hsub : i + j - i = j := by omega
    by_cases hc : capb = i
    · obtain rfl : j = 0 := by omega
      subst hc
      have CL := Lib.hid (clone_any _ _ _ _ w (Bs.empty w ⟨gb, 0, none⟩ 0 (by omega)) (by omega))
      go_enter Try.func86, Try.ntmps86
      go_wp2_with fail
      refine WI.out.mono ?_
      rintro e w' ⟨rfl, rfl⟩
      go_wp2_with fail
      refine CL.out.mono ?_
      rintro e w1 ⟨v1, rfl, o1, k1⟩
      go_wp2
      go_ret
      exact ⟨_, rfl, o1, k1⟩
    · have CL := Lib.hid (clone_any _ _ _ _ w DB.out (by omega))
      go_enter Try.func86, Try.ntmps86
      go_wp2_with fail
      refine WI.out.mono ?_
      rintro e w' ⟨rfl, rfl⟩
      go_wp2_with fail
      refine CL.out.mono ?_
      rintro e w1 ⟨v1, rfl, o1, k1⟩
      go_wp2
      go_ret
      exact ⟨_, rfl, o1, k1⟩
/-- Bytes and an error are told. -/
def ReadTold (w : World) (r : List Int × Int) (e : Ending) (w' : World) : Prop := ∃ v, e = .returned (.tuple #[v, .int .i64 r.2]) ∧ Own w' w.heap.size v r.1 ∧ Keeps None w w'
theorem slice_of_own {w : World} {B : Nat} {v : Value} {zs : List Int} (h : Own w B v zs) : ∃ A c, v = .slice A zs.length c ∧ Bs w A zs.length c zs := by
  obtain ⟨A, c, e, hb, -⟩ := h.shape
  exact ⟨A, c, e, hb⟩

set_option maxRecDepth 100000 in
theorem fread_any (B : Nat) (L : FL) (s : FS) (a m : Int) (w : World) (h : FAt w B L s) : Calls Try.prog 74 #[L.p, .int .i64 a, .int .i64 m] w (ReadTold w (s.readF a m)) := by
  have WI := Lib.hid (fwithin_any B L s a m w h)
  have PK := Lib.hid (fpeek_any B L s a m w h)
  have hbl := h.bl
  have hrf : s.readF a m = if s.dark = true then ([], 5) else if withinB a m L.N = true then (s.peekF a m, 0) else ([], 2) := by
    unfold FS.readF FS.peekF; rw [hbl]
    split
    · rfl
    · split <;> rfl
  cases hd : s.dark with
  | true =>
    rw [hd, if_pos rfl] at hrf
    rw [hrf]
    clear hrf hbl PK WI
    obtain ⟨bf, gb, ge, N, capb, n, af, pA, pc, pk⟩ := L
    have c0 := h.f.cellD 0 _ rfl
    have c1 := h.f.cellD 1 _ rfl
    have c2 := h.f.cellD 2 _ rfl
    have c3 := h.f.cellD 3 _ rfl
    have c4 := h.f.cellD 4 _ rfl
    have c5 := h.f.cellD 5 _ rfl
    have c6 := h.f.cellD 6 _ rfl
    have hcap := h.bs.le
    have hcmx := h.bs.max
    have hN := h.nN
    have hn0 := h.n0
    have hn9 := h.n9
    have H := Lib.hid h
    simp only [] at c0 c1 c2 c3 c4 c5 c6 hcap hcmx hN hn0 hn9
    have hNb : N ≤ 262144 := by omega
    have hN1 : 1024 ≤ N := by omega
    have HN := Lib.hid hN
    clear h hN
    simp only [FL.p, FL.pv]
    rw [hd] at c3
    clear hd
    go_enter Try.func74, Try.ntmps74
    go_wp2
    go_ret2
    exact ⟨_, rfl, Own.nil _ _, Keeps.refl _ _⟩
  | false =>
    rw [hd, if_neg (by decide)] at hrf
    cases hw : withinB a m L.N with
    | false =>
      rw [hw] at WI hrf
      rw [if_neg (by decide)] at hrf
      rw [hrf]
      clear hrf hbl PK hw
      obtain ⟨bf, gb, ge, N, capb, n, af, pA, pc, pk⟩ := L
      have c0 := h.f.cellD 0 _ rfl
      have c1 := h.f.cellD 1 _ rfl
      have c2 := h.f.cellD 2 _ rfl
      have c3 := h.f.cellD 3 _ rfl
      have c4 := h.f.cellD 4 _ rfl
      have c5 := h.f.cellD 5 _ rfl
      have c6 := h.f.cellD 6 _ rfl
      have hcap := h.bs.le
      have hcmx := h.bs.max
      have hN := h.nN
      have hn0 := h.n0
      have hn9 := h.n9
      have H := Lib.hid h
      simp only [] at c0 c1 c2 c3 c4 c5 c6 hcap hcmx hN hn0 hn9
      have hNb : N ≤ 262144 := by omega
      have hN1 : 1024 ≤ N := by omega
      have HN := Lib.hid hN
      clear h hN
      simp only [FL.p, FL.pv]
      rw [hd] at c3
      clear hd
      simp only [FL.p] at WI
      go_enter Try.func74, Try.ntmps74
      go_wp2_with fail
      refine WI.out.mono ?_
      rintro e w' ⟨rfl, rfl⟩
      go_wp2
      go_ret2
      exact ⟨_, rfl, Own.nil _ _, Keeps.refl _ _⟩
    | true =>
      rw [hw] at WI hrf
      rw [if_pos rfl] at hrf
      rw [hrf]
      generalize s.peekF a m = ps at *
      clear hrf hbl hw
      obtain ⟨bf, gb, ge, N, capb, n, af, pA, pc, pk⟩ := L
      have c0 := h.f.cellD 0 _ rfl
      have c1 := h.f.cellD 1 _ rfl
      have c2 := h.f.cellD 2 _ rfl
      have c3 := h.f.cellD 3 _ rfl
      have c4 := h.f.cellD 4 _ rfl
      have c5 := h.f.cellD 5 _ rfl
      have c6 := h.f.cellD 6 _ rfl
      have hcap := h.bs.le
      have hcmx := h.bs.max
      have hN := h.nN
      have hn0 := h.n0
      have hn9 := h.n9
      have H := Lib.hid h
      simp only [] at c0 c1 c2 c3 c4 c5 c6 hcap hcmx hN hn0 hn9
      have hNb : N ≤ 262144 := by omega
      have hN1 : 1024 ≤ N := by omega
      have HN := Lib.hid hN
      clear h hN
      simp only [FL.p, FL.pv]
      rw [hd] at c3
      clear hd
      simp only [FL.p] at WI PK
      go_enter Try.func74, Try.ntmps74
      go_wp2_with fail
      refine WI.out.mono ?_
      rintro e w' ⟨rfl, rfl⟩
      go_wp2_with fail
      refine PK.out.mono ?_
      rintro e w1 ⟨v1, rfl, o1, k1⟩
      go_wp2
      go_ret2
      exact ⟨_, rfl, o1, k1⟩

end Go.Proofs.Ytfldgaiiniknpaa
/- The walks of the calls that change a flash: Boot, Arm, Spoil, broken. -/
namespace Go.Proofs.Ytfldgaiiniknpaa
open Go.RowKit

/-- A flash that has turned. -/
structure Turn (w w' : World) (B : Nat) (L L' : FL) (s' : FS) : Prop where
  at_ : FAt w' B L' s'
  keeps : Keeps L.O w w'
  bf : L'.bf = L.bf
  n : L'.n = L.n
  o : ∀ k, L'.O k → L.O k ∨ w.heap.size ≤ k
theorem Turn.self {w : World} {B : Nat} {L : FL} {s : FS} (h : FAt w B L s) : Turn w w B L L s := ⟨h, Keeps.refl _ _, rfl, rfl, fun _ h => .inl h⟩
theorem FAt.head {w w' : World} {B : Nat} {L : FL} {s s' : FS} {af' : Int} (h : FAt w B L s) (hk : Keeps (fun k => k = L.bf) w w')
    (hf : Blk w' L.bf [.slice (some ⟨L.gb, 0, none⟩) L.N L.capb, .slice (some ⟨L.ge, 0, none⟩) L.n L.n, .int .i64 s'.steps, .bool s'.dark, .bool (decide (0 ≤ s'.left)), .int .i64 af', .slice L.pA L.pk.length L.pc] 81)
    (hb : s'.b = s.b) (he : s'.er = s.er) (ha : 0 ≤ s'.left → af' = s'.left ∧ L.pk = s'.pick) (hm : -1 ≤ s'.left) (hx : s'.left ≤ 9223372036854775807) : FAt w' B { L with af := af' } s' :=
  ⟨hf, by rw [hb]; exact h.b.keeps hk (fun b e => by cases e; exact fun e => h.d1 e.symm), by rw [he]; exact hk.blk h.e (fun e => h.d2 e.symm), h.p.keeps hk (fun b e hb => h.pn b e (.inl hb)), by rw [he]; exact h.el, ha, hm, hx, h.nN, h.n0, h.n9, h.bB, h.eB, h.d1, h.d2, h.d3, h.pn⟩
theorem FAt.bytes {w w' : World} {B : Nat} {L : FL} {s : FS} {b' : List Int} (h : FAt w B L s) (hk : Keeps (fun k => k = L.gb) w w') (hb : Own w' B (.slice (some ⟨L.gb, 0, none⟩) L.N L.capb) b') : FAt w' B L { s with b := b' } :=
  ⟨hk.blk h.f h.d1, hb, hk.blk h.e (fun e => h.d3 e.symm), h.p.keeps hk (fun b e hb => h.pn b e (.inr (.inl hb))), h.el, h.armed, h.lm, h.lx, h.nN, h.n0, h.n9, h.bB, h.eB, h.d1, h.d2, h.d3, h.pn⟩
theorem FAt.sect {w w' : World} {B : Nat} {L : FL} {s : FS} {er' : List Int} (h : FAt w B L s) (hk : Keeps (fun k => k = L.ge) w w') (he : Blk w' L.ge (er'.map (.int .i64)) 3) (hl : er'.length = s.er.length) : FAt w' B L { s with er := er' } :=
  ⟨hk.blk h.f h.d2, h.b.keeps hk (fun b e => by cases e; exact h.d3), he, h.p.keeps hk (fun b e hb => h.pn b e (.inr (.inr hb))), hl.trans h.el, h.armed, h.lm, h.lx, h.nN, h.n0, h.n9, h.bB, h.eB, h.d1, h.d2, h.d3, h.pn⟩
theorem FAt.frz {w : World} {B : Nat} {L : FL} {s : FS} (h : FAt w B L s) (i : Nat) : w.frozen? ⟨L.bf, i, none⟩ = false := h.f.frozen i
/-- Only the flash's own block has turned. -/
theorem Turn.ofHead {w w' : World} {B : Nat} {L : FL} {s' : FS} {af' : Int} (hk : Keeps (fun k => k = L.bf) w w') (h : FAt w' B { L with af := af' } s') : Turn w w' B L { L with af := af' } s' :=
  ⟨h, hk.mono (fun i _ e => .inl (.inl e)), rfl, rfl, fun _ h => .inl h⟩


set_option maxRecDepth 100000 in
theorem fboot_any (B : Nat) (L : FL) (s : FS) (w : World) (h : FAt w B L s) : Calls Try.prog 27 #[L.p] w fun e w' => e = .returned (.tuple #[]) ∧ ∃ L', Turn w w' B L L' s.bootF := by
  obtain ⟨bf, gb, ge, N, capb, n, af, pA, pc, pk⟩ := L
  have c0 := h.f.cellD 0 _ rfl
  have c1 := h.f.cellD 1 _ rfl
  have c2 := h.f.cellD 2 _ rfl
  have c3 := h.f.cellD 3 _ rfl
  have c4 := h.f.cellD 4 _ rfl
  have c5 := h.f.cellD 5 _ rfl
  have c6 := h.f.cellD 6 _ rfl
  have hcap := h.bs.le
  have hcmx := h.bs.max
  have hN := h.nN
  have hn0 := h.n0
  have hn9 := h.n9
  have H := Lib.hid h
  simp only [] at c0 c1 c2 c3 c4 c5 c6 hcap hcmx hN hn0 hn9
  have hNb : N ≤ 262144 := by omega
  have hN1 : 1024 ≤ N := by omega
  have HN := Lib.hid hN
  clear h hN
  simp only [FL.p, FL.pv]
  have z0 := H.out.frz 0
  have z1 := H.out.frz 1
  have z2 := H.out.frz 2
  have z3 := H.out.frz 3
  have z4 := H.out.frz 4
  have z5 := H.out.frz 5
  have z6 := H.out.frz 6
  simp only [] at z0 z1 z2 z3 z4 z5 z6
  go_enter Try.func27, Try.ntmps27
  go_wp2
  go_end0
  have hk : Keeps (fun k => k = bf) w ((w.setCell ⟨bf, 4, none⟩ (.bool false)).setCell ⟨bf, 3, none⟩ (.bool false)) := ((Keeps.self bf w).put 4 _).put 3 _
  exact ⟨rfl, _, Turn.ofHead (L := ⟨bf, gb, ge, N, capb, n, af, pA, pc, pk⟩) hk (H.out.head hk ((H.out.f.set 4 _).set 3 _) rfl rfl (fun h => absurd h (show ¬ (0 : Int) ≤ -1 by decide)) (show (-1 : Int) ≤ -1 by decide) (show (-1 : Int) ≤ 9223372036854775807 by decide))⟩

/-- What the call that counts a step leaves. -/
def Broke (w : World) (B : Nat) (L : FL) (s : FS) (e : Ending) (w' : World) : Prop := e = .returned (.bool (decide (s.left = 0))) ∧ Keeps (fun k => k = L.bf) w w' ∧ ∃ af', FAt w' B { L with af := af' } s.stepped

set_option maxRecDepth 100000 in
theorem fbroken_any (B : Nat) (L : FL) (s : FS) (w : World) (h : FAt w B L s) (hst : 0 ≤ s.steps ∧ s.steps ≤ 1000000000000) : Calls Try.prog 92 #[L.p] w (Broke w B L s) := by
  obtain ⟨st1, st2⟩ := hst
  have lm := h.lm
  have lx := h.lx
  have ha := h.armed
  by_cases q1 : s.left < 0
  · have e1 : decide (0 ≤ s.left) = false := decide_eq_false (by omega)
    have ES : Hid (s.stepped = { s with steps := s.steps + 1 }) := if_pos q1
    have EL : Hid (decide (s.left = 0) = false) := decide_eq_false (by omega)
    obtain ⟨bf, gb, ge, N, capb, n, af, pA, pc, pk⟩ := L
    have c0 := h.f.cellD 0 _ rfl
    have c1 := h.f.cellD 1 _ rfl
    have c2 := h.f.cellD 2 _ rfl
    have c3 := h.f.cellD 3 _ rfl
    have c4 := h.f.cellD 4 _ rfl
    have c5 := h.f.cellD 5 _ rfl
    have c6 := h.f.cellD 6 _ rfl
    have hcap := h.bs.le
    have hcmx := h.bs.max
    have hN := h.nN
    have hn0 := h.n0
    have hn9 := h.n9
    have H := Lib.hid h
    simp only [] at c0 c1 c2 c3 c4 c5 c6 hcap hcmx hN hn0 hn9
    have hNb : N ≤ 262144 := by omega
    have hN1 : 1024 ≤ N := by omega
    have HN := Lib.hid hN
    clear h hN
    simp only [FL.p, FL.pv]
    have z0 := H.out.frz 0
    have z1 := H.out.frz 1
    have z2 := H.out.frz 2
    have z3 := H.out.frz 3
    have z4 := H.out.frz 4
    have z5 := H.out.frz 5
    have z6 := H.out.frz 6
    simp only [] at z0 z1 z2 z3 z4 z5 z6
    rw [e1] at c4
    simp only [] at ha
    have HA := Lib.hid ha
    have Q1 := Lib.hid q1
    clear ha q1 e1
    go_enter Try.func92, Try.ntmps92
    go_wp2
    go_ret
    have hk : Keeps (fun k => k = bf) w (w.setCell ⟨bf, 2, none⟩ (.int .i64 (s.steps + 1))) := (Keeps.self bf w).put 2 _
    refine ⟨ret_bool EL.out.symm, hk, af, ?_⟩
    rw [ES.out]
    exact H.out.head hk (H.out.f.set 2 _) rfl rfl HA.out lm lx
  · obtain ⟨a1, a2⟩ := ha (by omega)
    by_cases q2 : s.left = 0
    · have e1 : decide (0 ≤ s.left) = true := decide_eq_true (by omega)
      have ES : Hid (s.stepped = { s with steps := s.steps + 1, left := -1, pick := [], dark := true }) := by
        show s.stepped = _
        unfold FS.stepped; rw [if_neg q1, if_pos q2]
      have EL : Hid (decide (s.left = 0) = true) := decide_eq_true q2
      obtain ⟨bf, gb, ge, N, capb, n, af, pA, pc, pk⟩ := L
      have c0 := h.f.cellD 0 _ rfl
      have c1 := h.f.cellD 1 _ rfl
      have c2 := h.f.cellD 2 _ rfl
      have c3 := h.f.cellD 3 _ rfl
      have c4 := h.f.cellD 4 _ rfl
      have c5 := h.f.cellD 5 _ rfl
      have c6 := h.f.cellD 6 _ rfl
      have hcap := h.bs.le
      have hcmx := h.bs.max
      have hN := h.nN
      have hn0 := h.n0
      have hn9 := h.n9
      have H := Lib.hid h
      simp only [] at c0 c1 c2 c3 c4 c5 c6 hcap hcmx hN hn0 hn9
      have hNb : N ≤ 262144 := by omega
      have hN1 : 1024 ≤ N := by omega
      have HN := Lib.hid hN
      clear h hN
      simp only [FL.p, FL.pv]
      have z0 := H.out.frz 0
      have z1 := H.out.frz 1
      have z2 := H.out.frz 2
      have z3 := H.out.frz 3
      have z4 := H.out.frz 4
      have z5 := H.out.frz 5
      have z6 := H.out.frz 6
      simp only [] at z0 z1 z2 z3 z4 z5 z6
      simp only [] at a1 a2
      rw [e1] at c4
      rw [a1, q2] at c5
      clear a1 a2 q1 q2 e1 ha
      go_enter Try.func92, Try.ntmps92
      go_wp2
      go_ret
      have hk : Keeps (fun k => k = bf) w (((w.setCell ⟨bf, 2, none⟩ (.int .i64 (s.steps + 1))).setCell ⟨bf, 4, none⟩ (.bool false)).setCell ⟨bf, 3, none⟩ (.bool true)) := (((Keeps.self bf w).put 2 _).put 4 _).put 3 _
      refine ⟨ret_bool EL.out.symm, hk, af, ?_⟩
      rw [ES.out]
      exact H.out.head hk (((H.out.f.set 2 _).set 4 _).set 3 _) rfl rfl (fun h => absurd h (show ¬ (0 : Int) ≤ -1 by decide)) (show (-1 : Int) ≤ -1 by decide) (show (-1 : Int) ≤ 9223372036854775807 by decide)
    · have e1 : decide (0 ≤ s.left) = true := decide_eq_true (by omega)
      have e2 : decide (0 < s.left) = true := decide_eq_true (by omega)
      have ES : Hid (s.stepped = { s with steps := s.steps + 1, left := s.left - 1 }) := by
        show s.stepped = _
        unfold FS.stepped; rw [if_neg q1, if_neg q2]
      have EL : Hid (decide (s.left = 0) = false) := decide_eq_false q2
      have lp : 0 < s.left := by omega
      have E3 : Hid (decide (0 ≤ s.left) = decide (0 ≤ s.left - 1)) := by show decide _ = decide _; rw [e1]; exact (decide_eq_true (by omega)).symm
      obtain ⟨bf, gb, ge, N, capb, n, af, pA, pc, pk⟩ := L
      have c0 := h.f.cellD 0 _ rfl
      have c1 := h.f.cellD 1 _ rfl
      have c2 := h.f.cellD 2 _ rfl
      have c3 := h.f.cellD 3 _ rfl
      have c4 := h.f.cellD 4 _ rfl
      have c5 := h.f.cellD 5 _ rfl
      have c6 := h.f.cellD 6 _ rfl
      have hcap := h.bs.le
      have hcmx := h.bs.max
      have hN := h.nN
      have hn0 := h.n0
      have hn9 := h.n9
      have H := Lib.hid h
      simp only [] at c0 c1 c2 c3 c4 c5 c6 hcap hcmx hN hn0 hn9
      have hNb : N ≤ 262144 := by omega
      have hN1 : 1024 ≤ N := by omega
      have HN := Lib.hid hN
      clear h hN
      simp only [FL.p, FL.pv]
      have z0 := H.out.frz 0
      have z1 := H.out.frz 1
      have z2 := H.out.frz 2
      have z3 := H.out.frz 3
      have z4 := H.out.frz 4
      have z5 := H.out.frz 5
      have z6 := H.out.frz 6
      simp only [] at z0 z1 z2 z3 z4 z5 z6
      simp only [] at a1 a2
      rw [e1] at c4
      rw [a1] at c5
      have A2 := Lib.hid a2
      clear a1 a2 q1 q2 ha
      go_enter Try.func92, Try.ntmps92
      go_wp2
      go_ret
      have hk : Keeps (fun k => k = bf) w ((w.setCell ⟨bf, 2, none⟩ (.int .i64 (s.steps + 1))).setCell ⟨bf, 5, none⟩ (.int .i64 (s.left - 1))) := ((Keeps.self bf w).put 2 _).put 5 _
      refine ⟨ret_bool EL.out.symm, hk, s.left - 1, ?_⟩
      rw [ES.out]
      have hb := (H.out.f.set 2 (.int .i64 (s.steps + 1))).set 5 (.int .i64 (s.left - 1))
      rw [E3.out] at hb
      exact H.out.head hk hb rfl rfl (fun _ => ⟨rfl, A2.out⟩) (by show -1 ≤ s.left - 1; omega) (by show s.left - 1 ≤ _; omega)

theorem FAt.rearm {w w1 w' : World} {B : Nat} {L : FL} {s s' : FS} {af' : Int} {A : Option Addr} {c : Nat} {ps : List Int} (h : FAt w B L s) (k1 : Keeps None w w1) (o1 : Own w1 w.heap.size (.slice A ps.length c) ps) (hk : Keeps (fun k => k = L.bf) w1 w')
    (hf : Blk w' L.bf [.slice (some ⟨L.gb, 0, none⟩) L.N L.capb, .slice (some ⟨L.ge, 0, none⟩) L.n L.n, .int .i64 s'.steps, .bool s'.dark, .bool (decide (0 ≤ s'.left)), .int .i64 af', .slice A ps.length c] 81)
    (hb : s'.b = s.b) (he : s'.er = s.er) (ha : 0 ≤ s'.left → af' = s'.left ∧ ps = s'.pick) (hm : -1 ≤ s'.left) (hx : s'.left ≤ 9223372036854775807) :
    Turn w w' B L { L with af := af', pA := A, pc := c, pk := ps } s' := by
  have hbf : L.bf < w.heap.size := h.lt _ (.inl (.inl rfl))
  have hnew : ∀ g, (Value.slice A ps.length c).ownBlock = some g → w.heap.size ≤ g := fun g hg => Nat.le_of_not_lt fun hlt => o1.notBelow hlt hg
  have k2 : Keeps (fun k => k = L.bf) w w' := k1.trans hk (fun _ h => h.elim) (fun _ _ h => h)
  refine ⟨⟨hf, by rw [hb]; exact h.b.keeps k2 (fun b e => by cases e; exact fun e => h.d1 e.symm), by rw [he]; exact k2.blk h.e (fun e => h.d2 e.symm), ?_, by rw [he]; exact h.el, ha, hm, hx, h.nN, h.n0, h.n9, h.bB, h.eB, h.d1, h.d2, h.d3, ?_⟩,
    k2.mono (fun i _ e => .inl (.inl e)), rfl, rfl, ?_⟩
  · exact (o1.lower (Nat.le_trans h.bB (Nat.le_of_lt hbf))).keeps hk (fun b e hb => by have := hnew b e; subst hb; omega)
  · intro g hg hS
    have h1 := hnew g hg
    have h2 := h.lt g (.inl hS)
    omega
  · intro k hk'
    rcases hk' with hS | hp
    · exact .inl (.inl hS)
    · exact .inr (hnew k hp)

set_option maxRecDepth 100000 in
theorem farm_any (B : Nat) (L : FL) (s : FS) (after : Int) (A : Option Addr) (m c : Nat) (ps : List Int) (w : World) (h : FAt w B L s) (hx : after ≤ 9223372036854775807) (hb : Bs w A m c ps) (hm : m ≤ 140737488355328) :
    Calls Try.prog 26 #[L.p, .int .i64 after, .slice A m c] w fun e w' => e = .returned (.tuple #[]) ∧ ∃ L', Turn w w' B L L' (s.armF after ps) := by
  have CL := Lib.hid (clone_any A m c ps w hb hm)
  have AF : Hid ((s.armF after ps).steps = s.steps ∧ (s.armF after ps).dark = s.dark ∧ decide (0 ≤ (s.armF after ps).left) = decide (0 ≤ after) ∧ (s.armF after ps).b = s.b ∧ (s.armF after ps).er = s.er ∧ (0 ≤ (s.armF after ps).left → after = (s.armF after ps).left ∧ ps = (s.armF after ps).pick) ∧ -1 ≤ (s.armF after ps).left ∧ (s.armF after ps).left ≤ 9223372036854775807) := by
    show _ ∧ _
    unfold FS.armF
    split
    · rename_i q
      exact ⟨rfl, rfl, by show decide ((0 : Int) ≤ -1) = _; rw [decide_eq_false (by decide), decide_eq_false (by omega)], rfl, rfl, fun h => absurd h (show ¬ (0 : Int) ≤ -1 by decide), (show (-1 : Int) ≤ -1 by decide), (show (-1 : Int) ≤ 9223372036854775807 by decide)⟩
    · rename_i q
      exact ⟨rfl, rfl, rfl, rfl, rfl, fun _ => ⟨rfl, rfl⟩, by show -1 ≤ after; omega, hx⟩
  generalize s.armF after ps = s' at *
  obtain ⟨bA, hbA⟩ : ∃ b, Hid (decide (0 ≤ after) = b) := ⟨_, rfl⟩
  have hd0 := hbA.out
  obtain ⟨bf, gb, ge, N, capb, n, af, pA, pc, pk⟩ := L
  have c0 := h.f.cellD 0 _ rfl
  have c1 := h.f.cellD 1 _ rfl
  have c2 := h.f.cellD 2 _ rfl
  have c3 := h.f.cellD 3 _ rfl
  have c4 := h.f.cellD 4 _ rfl
  have c5 := h.f.cellD 5 _ rfl
  have c6 := h.f.cellD 6 _ rfl
  have hcap := h.bs.le
  have hcmx := h.bs.max
  have hN := h.nN
  have hn0 := h.n0
  have hn9 := h.n9
  have H := Lib.hid h
  simp only [] at c0 c1 c2 c3 c4 c5 c6 hcap hcmx hN hn0 hn9
  have hNb : N ≤ 262144 := by omega
  have hN1 : 1024 ≤ N := by omega
  have HN := Lib.hid hN
  clear h hN
  simp only [FL.p, FL.pv]
  clear hb
  go_enter Try.func26, Try.ntmps26
  go_wp2_with fail
  refine CL.out.mono ?_
  rintro e w1 ⟨v1, rfl, o1, k1⟩
  obtain ⟨A1, cap1, rfl, bs1, -⟩ := o1.shape
  have O1 := Lib.hid o1
  have K1 := Lib.hid k1
  have H1 := Lib.hid (H.out.later k1)
  clear o1 k1 bs1 c0 c1 c2 c3 c4 c5 c6
  have z4 := H1.out.frz 4
  have z5 := H1.out.frz 5
  have z6 := H1.out.frz 6
  have y4 := H1.out.f.cellD 4 _ rfl
  have y5 := H1.out.f.cellD 5 _ rfl
  have y6 := H1.out.f.cellD 6 _ rfl
  simp only [] at z4 z5 z6 y4 y5 y6
  go_wp2
  go_end0
  have hk : Keeps (fun k => k = bf) w1 (((w1.setCell ⟨bf, 4, none⟩ (.bool bA)).setCell ⟨bf, 5, none⟩ (.int .i64 after)).setCell ⟨bf, 6, none⟩ (.slice A1 ps.length cap1)) := (((Keeps.self bf w1).put 4 _).put 5 _).put 6 _
  obtain ⟨f1, f2, f3, f4, f5, f6, f7, f8⟩ := AF.out
  have hbk := ((H1.out.f.set 4 (.bool bA)).set 5 (.int .i64 after)).set 6 (.slice A1 ps.length cap1)
  refine ⟨rfl, _, H.out.rearm K1.out O1.out hk (s' := s') (af' := after) ?_ f4 f5 f6 f7 f8⟩
  rw [f1, f2, f3, hbA.out]
  exact hbk

/-- A flash's bytes, cut. -/
theorem FAt.cut {w : World} {B : Nat} {L : FL} {s : FS} (h : FAt w B L s) {i j : Nat} (hij : i + j ≤ L.N) : Bs w (some ⟨L.gb, i, none⟩) j (L.capb - i) ((s.b.drop i).take j) := by
  have := Bs.take (k := j) (h.bs.drop (k := i) (by omega)) (by omega)
  rwa [Nat.zero_add] at this

set_option maxRecDepth 100000 in
theorem fdirty_any (B : Nat) (L : FL) (s : FS) (i : Nat) (A : Option Addr) (m c : Nat) (zs : List Int) (w : World) (h : FAt w B L s) (hb : Bs w A m c zs) (hi : i + m ≤ L.N) :
    Calls Try.prog 91 #[L.p, .int .i64 i, .slice A m c] w (Told (!canN ((s.b.drop i).take m) zs) w) := by
  have hle := hb.le
  have hmx := hb.max
  by_cases hc : L.capb = i
  · have hN := h.bs.le
    obtain rfl : m = 0 := by omega
    have e0 : zs = [] := List.eq_nil_of_length_eq_zero hb.len
    subst e0
    have CN := Lib.hid (can_any (some ⟨L.gb, 0, none⟩) A 0 0 0 c [] [] w (Bs.empty _ _ _ (by omega)) hb)
    simp only [List.take_zero]
    have hcn : canN [] [] = true := rfl
    rw [hcn] at CN ⊢
    clear hb hcn
    obtain ⟨bf, gb, ge, N, capb, n, af, pA, pc, pk⟩ := L
    have c0 := h.f.cellD 0 _ rfl
    have c1 := h.f.cellD 1 _ rfl
    have c2 := h.f.cellD 2 _ rfl
    have c3 := h.f.cellD 3 _ rfl
    have c4 := h.f.cellD 4 _ rfl
    have c5 := h.f.cellD 5 _ rfl
    have c6 := h.f.cellD 6 _ rfl
    have hcap := h.bs.le
    have hcmx := h.bs.max
    have hN := h.nN
    have hn0 := h.n0
    have hn9 := h.n9
    have H := Lib.hid h
    simp only [] at c0 c1 c2 c3 c4 c5 c6 hcap hcmx hN hn0 hn9
    have hNb : N ≤ 262144 := by omega
    have hN1 : 1024 ≤ N := by omega
    have HN := Lib.hid hN
    clear h hN
    simp only [FL.p, FL.pv]
    simp only [] at hc hi CN
    subst hc
    go_enter Try.func91, Try.ntmps91
    go_wp2_with fail
    refine CN.out.mono ?_
    rintro e w1 ⟨rfl, q, rfl⟩
    go_wp2
    go_ret
    exact ⟨rfl, q, rfl⟩
  · have CN := Lib.hid (can_any _ A m _ m c _ zs w (h.cut (i := i) (j := m) hi) hb)
    generalize canN ((s.b.drop i).take m) zs = cb at *
    have hsub : i + m - i = m := by omega
    clear hb
    obtain ⟨bf, gb, ge, N, capb, n, af, pA, pc, pk⟩ := L
    have c0 := h.f.cellD 0 _ rfl
    have c1 := h.f.cellD 1 _ rfl
    have c2 := h.f.cellD 2 _ rfl
    have c3 := h.f.cellD 3 _ rfl
    have c4 := h.f.cellD 4 _ rfl
    have c5 := h.f.cellD 5 _ rfl
    have c6 := h.f.cellD 6 _ rfl
    have hcap := h.bs.le
    have hcmx := h.bs.max
    have hN := h.nN
    have hn0 := h.n0
    have hn9 := h.n9
    have H := Lib.hid h
    simp only [] at c0 c1 c2 c3 c4 c5 c6 hcap hcmx hN hn0 hn9
    have hNb : N ≤ 262144 := by omega
    have hN1 : 1024 ≤ N := by omega
    have HN := Lib.hid hN
    clear h hN
    simp only [FL.p, FL.pv]
    simp only [] at hc hi CN
    go_enter Try.func91, Try.ntmps91
    go_wp2_with fail
    refine CN.out.mono ?_
    rintro e w1 ⟨rfl, q, rfl⟩
    go_wp2
    go_ret
    exact ⟨rfl, q, rfl⟩
end Go.Proofs.Ytfldgaiiniknpaa
/- The walk of flash.Program. -/
namespace Go.Proofs.Ytfldgaiiniknpaa
open Go.RowKit

theorem tornN_len8 {os ns ps : List Int} (h : canN os ns = true) : (tornN os ns ps).length = ns.length := by rw [tornN, if_pos h, tornTo_length]
theorem stepped_steps_le {s : FS} {a b : Int} (h1 : 0 ≤ s.steps) (h2 : s.steps + (a + 1) ≤ b) : 0 ≤ s.stepped.steps ∧ s.stepped.steps + a ≤ b := by rw [FS.stepped_steps]; omega
/-- A word of what is left can be programmed; and what is left then, too. -/
theorem can_word {L zs : List Int} {p k iv : Nat} (h : canN ((L.drop p).take (8 * (k + 1))) (zs.drop iv) = true) : canN ((L.drop p).take 8) ((zs.drop iv).take 8) = true := by
  have := canN_take h 8
  rwa [List.take_take, Nat.min_eq_left (by omega)] at this
theorem can_rest {L zs X : List Int} {p k iv : Nat} (hX : X.length = 8) (hp : p + 8 ≤ L.length) (h : canN ((L.drop p).take (8 * (k + 1))) (zs.drop iv) = true) : canN (((splice L p X).drop (p + 8)).take (8 * k)) (zs.drop (iv + 8)) = true := by
  have h2 := canN_drop h 8
  rw [List.drop_take, List.drop_drop, List.drop_drop] at h2
  rw [splice_drop _ _ _ _ (by omega) (by omega)]
  have e : 8 * (k + 1) - 8 = 8 * k := by omega
  rwa [e] at h2
theorem progW_cut {k : Nat} {s : FS} {p : Nat} {ws : List Int} {R : FS × Int} (h : progW (k + 1) s p ws = R) (h0 : s.left = 0) : R = ({ s.stepped with b := splice s.b p (tornN ((s.b.drop p).take 8) (ws.take 8) s.pick) }, 5) := by
  rw [← h]; show (if _ then _ else _) = _; rw [if_pos h0]
theorem progW_go {k : Nat} {s : FS} {p : Nat} {ws : List Int} {R : FS × Int} (h : progW (k + 1) s p ws = R) (h0 : ¬ s.left = 0) : progW k { s.stepped with b := splice s.b p (ws.take 8) } (p + 8) (ws.drop 8) = R := by
  rw [← h]; show _ = (if _ then _ else _); rw [if_neg h0]

/-- What Program leaves. -/
def ProgTold (w : World) (B : Nat) (L : FL) (r : FS × Int) (e : Ending) (w' : World) : Prop := e = .returned (.int .i64 r.2) ∧ ∃ L', Turn w w' B L L' r.1


set_option maxRecDepth 100000 in
set_option maxHeartbeats 1600000 in
theorem fprogram_any (B : Nat) (L : FL) (s : FS) (a : Int) (A : Option Addr) (m c : Nat) (zs : List Int) (w : World) (h : FAt w B L s) (hb : Bs w A m c zs) (hst : 0 ≤ s.steps ∧ s.steps + m ≤ 1000000000000)
    (hA : ∀ b off, 0 < m → A = some ⟨b, off, none⟩ → ¬ L.S b) : Calls Try.prog 81 #[L.p, .int .i64 a, .slice A m c] w (ProgTold w B L (s.progF a zs)) := by
  have WI := Lib.hid (fwithin_any B L s a m w h)
  have hbl := h.bl
  have hml := hb.len
  have hle := hb.le
  have hmx := hb.max
  have PF : Hid (s.progF a zs = if s.dark = true then (s, 5) else if withinB a m L.N = false then (s, 2) else if a % 8 ≠ 0 ∨ m % 8 ≠ 0 then (s, 3) else if canN ((s.b.drop a.toNat).take m) zs = false then (s, 4) else progW (m / 8) s a.toNat zs) := by
    show s.progF a zs = _
    unfold FS.progF; rw [hbl, hml]
  have HT := Lib.hid (Turn.self h)
  obtain ⟨L0, hL0⟩ : ∃ x, x = L := ⟨_, rfl⟩
  have HL0 := Lib.hid hL0
  rw [← hL0] at HT
  clear hL0 hbl
  cases hd : s.dark with
  | true =>
    rw [hd] at PF
    have PG : Hid (s.progF a zs = (s, 5)) := by show _ = _; rw [PF.out, if_pos rfl]
    clear WI hb hA
    obtain ⟨bf, gb, ge, N, capb, n, af, pA, pc, pk⟩ := L
    have c0 := h.f.cellD 0 _ rfl
    have c1 := h.f.cellD 1 _ rfl
    have c2 := h.f.cellD 2 _ rfl
    have c3 := h.f.cellD 3 _ rfl
    have c4 := h.f.cellD 4 _ rfl
    have c5 := h.f.cellD 5 _ rfl
    have c6 := h.f.cellD 6 _ rfl
    have hcap := h.bs.le
    have hcmx := h.bs.max
    have hN := h.nN
    have hn0 := h.n0
    have hn9 := h.n9
    have H := Lib.hid h
    simp only [] at c0 c1 c2 c3 c4 c5 c6 hcap hcmx hN hn0 hn9
    have hNb : N ≤ 262144 := by omega
    have hN1 : 1024 ≤ N := by omega
    have HN := Lib.hid hN
    clear h hN
    simp only [FL.p, FL.pv]
    rw [HL0.out] at HT
    rw [hd] at c3
    clear hd HL0
    go_enter Try.func81, Try.ntmps81
    go_wp2
    go_ret
    rw [PG.out]
    exact ⟨rfl, _, HT.out⟩
  | false =>
  rw [hd] at PF
  cases hw : withinB a m L.N with
  | false =>
    rw [hw] at PF WI
    have PG : Hid (s.progF a zs = (s, 2)) := by show _ = _; rw [PF.out, if_neg (by decide), if_pos rfl]
    clear hb hA hw
    obtain ⟨bf, gb, ge, N, capb, n, af, pA, pc, pk⟩ := L
    have c0 := h.f.cellD 0 _ rfl
    have c1 := h.f.cellD 1 _ rfl
    have c2 := h.f.cellD 2 _ rfl
    have c3 := h.f.cellD 3 _ rfl
    have c4 := h.f.cellD 4 _ rfl
    have c5 := h.f.cellD 5 _ rfl
    have c6 := h.f.cellD 6 _ rfl
    have hcap := h.bs.le
    have hcmx := h.bs.max
    have hN := h.nN
    have hn0 := h.n0
    have hn9 := h.n9
    have H := Lib.hid h
    simp only [] at c0 c1 c2 c3 c4 c5 c6 hcap hcmx hN hn0 hn9
    have hNb : N ≤ 262144 := by omega
    have hN1 : 1024 ≤ N := by omega
    have HN := Lib.hid hN
    clear h hN
    simp only [FL.p, FL.pv]
    rw [HL0.out] at HT
    rw [hd] at c3
    clear hd HL0
    simp only [FL.p] at WI
    go_enter Try.func81, Try.ntmps81
    go_wp2_with fail
    refine WI.out.mono ?_
    rintro e w' ⟨rfl, rfl⟩
    go_wp2
    go_ret
    rw [PG.out]
    exact ⟨rfl, _, HT.out⟩
  | true =>
  rw [hw] at PF WI
  obtain ⟨i, j, rfl, hj, hij⟩ := within_nat hw
  obtain rfl : m = j := by omega
  simp only [Int.toNat_natCast] at PF
  clear hw hj
  by_cases g1 : i % 8 = 0
  case neg =>
    have PG : Hid (s.progF i zs = (s, 3)) := by show _ = _; rw [PF.out, if_neg (by decide), if_neg (by decide), if_pos (.inl (by omega))]
    have e1 : ((i : Int) % 8 != 0) = true := by simp; omega
    clear hb hA
    obtain ⟨bf, gb, ge, N, capb, n, af, pA, pc, pk⟩ := L
    have c0 := h.f.cellD 0 _ rfl
    have c1 := h.f.cellD 1 _ rfl
    have c2 := h.f.cellD 2 _ rfl
    have c3 := h.f.cellD 3 _ rfl
    have c4 := h.f.cellD 4 _ rfl
    have c5 := h.f.cellD 5 _ rfl
    have c6 := h.f.cellD 6 _ rfl
    have hcap := h.bs.le
    have hcmx := h.bs.max
    have hN := h.nN
    have hn0 := h.n0
    have hn9 := h.n9
    have H := Lib.hid h
    simp only [] at c0 c1 c2 c3 c4 c5 c6 hcap hcmx hN hn0 hn9
    have hNb : N ≤ 262144 := by omega
    have hN1 : 1024 ≤ N := by omega
    have HN := Lib.hid hN
    clear h hN
    simp only [FL.p, FL.pv]
    rw [HL0.out] at HT
    rw [hd] at c3
    clear hd HL0
    simp only [FL.p] at WI
    go_enter Try.func81, Try.ntmps81
    go_wp2_with fail
    refine WI.out.mono ?_
    rintro e w' ⟨rfl, rfl⟩
    go_wp2
    go_ret
    rw [PG.out]
    exact ⟨rfl, _, HT.out⟩
  have e1 : ((i : Int) % 8 != 0) = false := by simp; omega
  by_cases g2 : m % 8 = 0
  case neg =>
    have PG : Hid (s.progF i zs = (s, 3)) := by show _ = _; rw [PF.out, if_neg (by decide), if_neg (by decide), if_pos (.inr g2)]
    have e2 : ((m : Int) % 8 != 0) = true := by simp; omega
    clear hb hA
    obtain ⟨bf, gb, ge, N, capb, n, af, pA, pc, pk⟩ := L
    have c0 := h.f.cellD 0 _ rfl
    have c1 := h.f.cellD 1 _ rfl
    have c2 := h.f.cellD 2 _ rfl
    have c3 := h.f.cellD 3 _ rfl
    have c4 := h.f.cellD 4 _ rfl
    have c5 := h.f.cellD 5 _ rfl
    have c6 := h.f.cellD 6 _ rfl
    have hcap := h.bs.le
    have hcmx := h.bs.max
    have hN := h.nN
    have hn0 := h.n0
    have hn9 := h.n9
    have H := Lib.hid h
    simp only [] at c0 c1 c2 c3 c4 c5 c6 hcap hcmx hN hn0 hn9
    have hNb : N ≤ 262144 := by omega
    have hN1 : 1024 ≤ N := by omega
    have HN := Lib.hid hN
    clear h hN
    simp only [FL.p, FL.pv]
    rw [HL0.out] at HT
    rw [hd] at c3
    clear hd HL0
    simp only [FL.p] at WI
    go_enter Try.func81, Try.ntmps81
    go_wp2_with fail
    refine WI.out.mono ?_
    rintro e w' ⟨rfl, rfl⟩
    go_wp2
    go_ret
    rw [PG.out]
    exact ⟨rfl, _, HT.out⟩
  have e2 : ((m : Int) % 8 != 0) = false := by simp; omega
  have DI := Lib.hid (fdirty_any B L s i A m c zs w h hb hij)
  cases hc : canN ((s.b.drop i).take m) zs with
  | false =>
    rw [hc] at PF DI
    have PG : Hid (s.progF i zs = (s, 4)) := by show _ = _; rw [PF.out, if_neg (by decide), if_neg (by decide), if_neg (by omega), if_pos rfl]
    clear hb hA hc
    obtain ⟨bf, gb, ge, N, capb, n, af, pA, pc, pk⟩ := L
    have c0 := h.f.cellD 0 _ rfl
    have c1 := h.f.cellD 1 _ rfl
    have c2 := h.f.cellD 2 _ rfl
    have c3 := h.f.cellD 3 _ rfl
    have c4 := h.f.cellD 4 _ rfl
    have c5 := h.f.cellD 5 _ rfl
    have c6 := h.f.cellD 6 _ rfl
    have hcap := h.bs.le
    have hcmx := h.bs.max
    have hN := h.nN
    have hn0 := h.n0
    have hn9 := h.n9
    have H := Lib.hid h
    simp only [] at c0 c1 c2 c3 c4 c5 c6 hcap hcmx hN hn0 hn9
    have hNb : N ≤ 262144 := by omega
    have hN1 : 1024 ≤ N := by omega
    have HN := Lib.hid hN
    clear h hN
    simp only [FL.p, FL.pv]
    rw [HL0.out] at HT
    rw [hd] at c3
    clear hd HL0
    simp only [FL.p] at WI DI
    go_enter Try.func81, Try.ntmps81
    go_wp2_with fail
    refine WI.out.mono ?_
    rintro e w' ⟨rfl, rfl⟩
    go_wp2_with fail
    refine DI.out.mono ?_
    rintro e w1 ⟨rfl, q, rfl⟩
    go_wp2
    go_ret
    rw [PG.out]
    exact ⟨rfl, _, ⟨HT.out.at_.later ((Keeps.refl None w).drewN q), (Keeps.refl _ w).drewN q, rfl, rfl, fun _ h => .inl h⟩⟩
  | true =>
  rw [hc] at PF DI
  obtain ⟨K, hK⟩ : ∃ K, m = 8 * K := ⟨m / 8, by omega⟩
  obtain ⟨R, hR⟩ : ∃ R, progW K s i zs = R := ⟨_, rfl⟩
  have PG : Hid (s.progF i zs = R) := by
    show _ = _
    rw [PF.out, if_neg (by decide), if_neg (by decide), if_neg (by omega), if_neg (by decide), ← hR, hK, Nat.mul_div_cancel_left _ (by decide)]
  rw [PG.out]
  have HR := Lib.hid hR
  have HC := Lib.hid hc
  have HML := Lib.hid hml
  have HB := Lib.hid hb
  have HA := Lib.hid hA
  have hK8 : m ≤ 262144 := by have := h.nN; have := h.n9; omega
  have HK := Lib.hid hK
  obtain ⟨st1, st2⟩ := hst
  clear hb hA hc PF PG hR hml HT hK
  obtain ⟨bf, gb, ge, N, capb, n, af, pA, pc, pk⟩ := L
  have c0 := h.f.cellD 0 _ rfl
  have c1 := h.f.cellD 1 _ rfl
  have c2 := h.f.cellD 2 _ rfl
  have c3 := h.f.cellD 3 _ rfl
  have c4 := h.f.cellD 4 _ rfl
  have c5 := h.f.cellD 5 _ rfl
  have c6 := h.f.cellD 6 _ rfl
  have hcap := h.bs.le
  have hcmx := h.bs.max
  have hN := h.nN
  have hn0 := h.n0
  have hn9 := h.n9
  have H := Lib.hid h
  simp only [] at c0 c1 c2 c3 c4 c5 c6 hcap hcmx hN hn0 hn9
  have hNb : N ≤ 262144 := by omega
  have hN1 : 1024 ≤ N := by omega
  have HN := Lib.hid hN
  clear h hN
  simp only [FL.p, FL.pv]
  rw [hd] at c3
  clear hd HL0
  simp only [FL.p] at WI DI
  simp only [FL.S] at HA
  simp only [] at hij
  go_enter Try.func81, Try.ntmps81
  go_wp2_with fail
  refine WI.out.mono ?_
  rintro e w' ⟨rfl, rfl⟩
  go_wp2_with fail
  refine DI.out.mono ?_
  rintro e w1 ⟨rfl, q0, rfl⟩
  go_wp2
  have D0 : Hid (Keeps (fun k => k = bf ∨ k = gb ∨ k = ge) w (w.drewN q0)) := (Keeps.refl _ w).drewN q0
  have H0 := Lib.hid (H.out.later ((Keeps.refl None w).drewN q0))
  clear WI DI c0 c1 c2 c3 c4 c5 c6
  go_loopw [7] (fun iv wr => ∃ (j : Nat) (s1 : FS) (af1 : Int), j ≤ K ∧ iv = .int .i64 (8 * j : Nat) ∧ FAt wr B ⟨bf, gb, ge, N, capb, n, af1, pA, pc, pk⟩ s1 ∧ Keeps (fun k => k = bf ∨ k = gb ∨ k = ge) w wr ∧ progW (K - j) s1 (i + 8 * j) (zs.drop (8 * j)) = R ∧ canN ((s1.b.drop (i + 8 * j)).take (8 * (K - j))) (zs.drop (8 * j)) = true ∧ 0 ≤ s1.steps ∧ s1.steps + (K - j : Nat) ≤ 1000000000000) (fun iv _ => 8 * K - (intOf iv).toNat)
  case atStart =>
    refine ⟨0, s, af, Nat.zero_le _, rfl, H0.out, D0.out, by simpa using HR.out, ?_, st1, by have := HK.out; omega⟩
    have := HC.out
    rw [HK.out] at this
    simpa using this
  case round =>
    obtain ⟨j, s1, af1, hjK, rfl, hF, hKp, hpr, hcn, hs1, hs2⟩ := hrel
    obtain ⟨wv, rfl⟩ : ∃ x, x = wr := ⟨_, rfl⟩
    clear H0 D0
    by_cases hlt : j < K
    · obtain ⟨k, hk⟩ : ∃ k, K - j = k + 1 := ⟨K - j - 1, by omega⟩
      rw [hk] at hpr hcn hs2
      obtain ⟨iv, hiv⟩ : ∃ iv, 8 * j = iv := ⟨_, rfl⟩
      obtain ⟨p, hp⟩ : ∃ p, i + iv = p := ⟨_, rfl⟩
      rw [hiv] at hpr hcn ⊢
      rw [hp] at hpr hcn
      have hm8 : iv + 8 ≤ m := by have := HK.out; omega
      have hpN : p + 8 ≤ N := by omega
      have x1 : decide (iv < m) = true := decide_eq_true (by omega)
      have x2 : decide ((iv : Int) < m) = true := decide_eq_true (by omega)
      have CW := Lib.hid (can_word hcn)
      have HF := Lib.hid hF
      have HKp := Lib.hid hKp
      have y0 := hF.f.cellD 0 _ rfl
      simp only [] at y0
      obtain ⟨bb, bo, hAe, hbb, -⟩ := HB.out.at_ (by omega)
      subst hAe
      have NS1 := HA.out bb bo (by omega) rfl
      have ce : ¬ c = iv := by omega
      have cpe : ¬ capb = p := by omega
      have w1 : IntKind.i64.wrap ((i : Int) + iv) = p := by rw [show (i : Int) + iv = (p : Int) by omega]; exact wrap_nat _ (by omega)
      have w2 : IntKind.i64.wrap ((p : Int) + 8) = p + 8 := IntWalk.i64_in _ (by omega)
      have w3 : IntKind.i64.wrap ((iv : Int) + 8) = iv + 8 := IntWalk.i64_in _ (by omega)
      have w4 : p + 8 - p = 8 := by omega
      have w5 : iv + 8 - iv = 8 := by omega
      have BRK := Lib.hid (fun w' (hh : FAt w' B ⟨bf, gb, ge, N, capb, n, af1, pA, pc, pk⟩ s1) => fbroken_any B _ s1 w' hh ⟨hs1, by omega⟩)
      have BW := Lib.hid (fun w' (hh : Keeps (fun k => k = bf ∨ k = gb ∨ k = ge) w w') => Bs.take (k := 8) ((HB.out.keeps hh (fun b off _ _ e => by cases e; exact NS1)).drop (k := iv) (by omega)) (by omega))
      have HCN := Lib.hid hcn
      have HPR := Lib.hid hpr
      have LEN8 : Hid (((zs.drop iv).take 8).length = 8) := by show ((zs.drop iv).take 8).length = 8; rw [List.length_take, List.length_drop, HML.out]; omega
      have ST := Lib.hid (stepped_steps_le (s := s1) (a := (k : Int)) (b := 1000000000000) hs1 (by omega))
      have E8 : Hid (8 * (j + 1) = iv + 8) := by show 8 * (j + 1) = iv + 8; omega
      have EKj : Hid (K - (j + 1) = k) := by show K - (j + 1) = k; omega
      have EP : Hid (i + (iv + 8) = p + 8) := by show i + (iv + 8) = p + 8; omega
      clear hF hKp hcn hpr hs1 hs2 hiv hp hk
      go_wp2
      obtain ⟨mS, mh⟩ : ∃ S : World → Prop, ∀ w', S w' ↔ (w'.cell? ⟨bf, 0, none⟩ = some (.slice (some ⟨gb, 0, none⟩) N capb)) := ⟨_, fun _ => Iff.rfl⟩
      have mk0 : ∀ x : Memb mS, x.at_.cell? ⟨bf, 0, none⟩ = some (.slice (some ⟨gb, 0, none⟩) N capb) := fun x => ((mh _).1 x.is)
      have mn : Nonempty (Memb mS) := ⟨⟨(wv).drew, (mh _).2 (y0)⟩⟩
      have mH := Lib.hid mh
      clear mh
      refine wp_region_mix [] (InS mS) (by kernel_rfl) (by kernel_rfl) (InS.mk ((mH.out _).2 (y0))) ?_
      refine wpMix_seg 19 (by kernel_rfl) (by decide) ?_
      simp only [List.take_succ_cons, List.take_zero, List.drop_succ_cons, List.drop_zero]
      repeat (go_big_quiet_step (fail))
      refine wpQuiet_nil ?_
      refine wpMix_nil ?_
      clear mk0 mn mH
      rw [w4, w5]
      clear w1 w2 w3 w4 w5 y0
      by_cases h0 : s1.left = 0
      · have EL : Hid (decide (s1.left = 0) = true) := decide_eq_true h0
        have ER := Lib.hid (progW_cut HPR.out h0)
        have hpk := (HF.out.armed (by omega)).2
        simp only [] at hpk
        have HPK := Lib.hid hpk
        rw [← HPK.out] at ER
        clear h0 hpk HPK
        go_wp2_with fail
        refine (BRK.out _ HF.out.drew).mono ?_
        rintro e w2 ⟨rfl, kb, af2, hf2⟩
        rw [EL.out]
        have y6 := hf2.f.cellD 6 _ rfl
        simp only [] at y6
        have K2 : Hid (Keeps (fun k => k = bf ∨ k = gb ∨ k = ge) w w2) := HKp.out.drew.trans kb (fun _ h => h) (fun _ _ h => .inl h)
        have F2 := Lib.hid hf2
        have C2 : Hid (Bs w2 (some ⟨gb, p, none⟩) 8 (capb - p) ((s1.b.drop p).take 8)) := by have := hf2.cut (i := p) (j := 8) hpN; rwa [FS.stepped_b] at this
        have P2 : Hid (Bs w2 pA pk.length pc pk) := ownBs (show Own w2 B (.slice pA pk.length pc) pk from hf2.p)
        have W2 := Lib.hid (BW.out w2 K2.out)
        clear kb hf2 HF HKp BW BRK
        go_wp2_with fail
        refine (torn_any _ _ _ _ _ _ _ _ _ _ _ _ _ C2.out W2.out P2.out (by omega)).mono ?_
        rintro e w3 ⟨v3, rfl, o3, k3⟩
        obtain ⟨A3, c3, rfl, bs3, -⟩ := o3.shape
        have TL := tornN_len8 (ps := pk) CW.out
        rw [LEN8.out] at TL
        rw [TL] at bs3 ⊢
        have TT : Hid ((tornN ((s1.b.drop p).take 8) ((zs.drop iv).take 8) pk).take 8 = tornN ((s1.b.drop p).take 8) ((zs.drop iv).take 8) pk) := List.take_of_length_le (by omega)
        have B3 := Lib.hid bs3
        have F3 := Lib.hid (F2.out.later k3)
        have K3 : Hid (Keeps (fun k => k = bf ∨ k = gb ∨ k = ge) w w3) := K2.out.trans k3 (fun _ h => h) (fun _ _ h => h.elim)
        clear o3 k3 bs3 TL
        go_wp2_with (with_reducible refine wpList_copy_bs (B := B) (g := gb) (off := p) (n := N) (cap := capb) rfl rfl rfl rfl (by first | (intro _; rfl) | (intro h0; omega)) F3.out.b B3.out (by omega) ?_)
        intro w4 o4 k4
        rw [TT.out] at o4
        have O4 := Lib.hid o4
        have K4 := Lib.hid k4
        clear o4 k4
        go_wp2
        go_ret
        have F4 := F3.out.bytes K4.out O4.out
        rw [FS.stepped_b] at F4
        refine ⟨by rw [ER.out]; rfl, ⟨bf, gb, ge, N, capb, n, af2, pA, pc, pk⟩, ?_, (K3.out.trans K4.out (T := fun k => k = bf ∨ k = gb ∨ k = ge) (fun _ h => h) (fun _ _ h => .inr (.inl h))).mono (fun _ _ h => .inl h), rfl, rfl, fun _ h => .inl h⟩
        rw [ER.out]
        exact F4
      · have EL : Hid (decide (s1.left = 0) = false) := decide_eq_false h0
        have ER := Lib.hid (progW_go HPR.out h0)
        clear h0
        go_wp2_with fail
        refine (BRK.out _ HF.out.drew).mono ?_
        rintro e w2 ⟨rfl, kb, af2, hf2⟩
        rw [EL.out]
        have K2 : Hid (Keeps (fun k => k = bf ∨ k = gb ∨ k = ge) w w2) := HKp.out.drew.trans kb (fun _ h => h) (fun _ _ h => .inl h)
        have F2 := Lib.hid hf2
        have C2 : Hid (Bs w2 (some ⟨gb, p, none⟩) 8 (capb - p) ((s1.b.drop p).take 8)) := by have := hf2.cut (i := p) (j := 8) hpN; rwa [FS.stepped_b] at this
        have W2 := Lib.hid (BW.out w2 K2.out)
        have BL := Lib.hid HF.out.bl
        clear kb hf2 HF HKp BW BRK
        go_wp2_with fail
        refine (program_any _ _ _ _ _ _ _ _ _ C2.out W2.out (by omega)).mono ?_
        rintro e w3 ⟨v3, rfl, o3, k3⟩
        rw [show progN ((s1.b.drop p).take 8) ((zs.drop iv).take 8) = (zs.drop iv).take 8 from if_pos CW.out] at o3
        obtain ⟨A3, c3, rfl, bs3, -⟩ := o3.shape
        rw [LEN8.out] at bs3 ⊢
        have TT : Hid (((zs.drop iv).take 8).take 8 = (zs.drop iv).take 8) := List.take_of_length_le (by rw [LEN8.out]; exact Nat.le_refl _)
        have B3 := Lib.hid bs3
        have F3 := Lib.hid (F2.out.later k3)
        have K3 : Hid (Keeps (fun k => k = bf ∨ k = gb ∨ k = ge) w w3) := K2.out.trans k3 (fun _ h => h) (fun _ _ h => h.elim)
        clear o3 k3 bs3
        go_wp2_with (with_reducible refine wpList_copy_bs (B := B) (g := gb) (off := p) (n := N) (cap := capb) rfl rfl rfl rfl (by first | (intro _; rfl) | (intro h0; omega)) F3.out.b B3.out (by omega) ?_)
        intro w4 o4 k4
        rw [TT.out, FS.stepped_b] at o4
        have F4 := Lib.hid (F3.out.bytes k4 o4)
        have K4 : Hid (Keeps (fun k => k = bf ∨ k = gb ∨ k = ge) w w4) := K3.out.trans k4 (fun _ h => h) (fun _ _ h => .inr (.inl h))
        clear o4 k4
        go_wp2
        go_roundw
        case rel =>
          refine ⟨j + 1, _, af2, hlt, val_int (by rw [E8.out]; omega), F4.out, K4.out, ?_, ?_, ?_, ?_⟩
          · rw [EKj.out, E8.out, EP.out, ← ER.out, List.drop_drop]
          · rw [EKj.out, E8.out, EP.out]
            exact can_rest LEN8.out (by rw [BL.out]; exact hpN) HCN.out
          · exact ST.out.1
          · rw [EKj.out]; exact ST.out.2
        case measure => have := E8.out; simp [intOf]; omega
    · obtain rfl : j = K := by omega
      rw [Nat.sub_self] at hpr
      have ER : Hid (R = (s1, 0)) := hpr.symm
      have HF := Lib.hid hF
      have HKp := Lib.hid hKp
      have x1 : decide (8 * j < m) = false := decide_eq_false (by have := HK.out; omega)
      have x2 : decide (8 * (j : Int) < m) = false := decide_eq_false (by have := HK.out; omega)
      have x3 : decide (((8 * j : Nat) : Int) < m) = false := decide_eq_false (by have := HK.out; omega)
      clear hF hKp hpr hcn hs1 hs2
      go_wp2
      go_ret
      refine ⟨by rw [ER.out]; rfl, ⟨bf, gb, ge, N, capb, n, af1, pA, pc, pk⟩, ?_, HKp.out.mono (fun _ _ h => .inl h), rfl, rfl, fun _ h => .inl h⟩
      rw [ER.out]
      exact HF.out
end Go.Proofs.Ytfldgaiiniknpaa
/- The walks of flash.Erase and flash.New. -/
namespace Go.Proofs.Ytfldgaiiniknpaa
open Go.RowKit

theorem halfN_len (os ps : List Int) : (halfN os ps).length = os.length := halfTo_length _ _ _

set_option maxRecDepth 100000 in
set_option maxHeartbeats 800000 in
theorem ferase_any (B : Nat) (L : FL) (s : FS) (k : Int) (w : World) (h : FAt w B L s) (hst : 0 ≤ s.steps ∧ s.steps ≤ 1000000000000) (her : ∀ i, 0 ≤ s.er.getD i 0 ∧ s.er.getD i 0 ≤ 1000000000000) :
    Calls Try.prog 96 #[L.p, .int .i64 k] w (ProgTold w B L (s.eraseF k)) := by
  have hel := h.el
  have HT := Lib.hid (Turn.self h)
  have EF : Hid (s.eraseF k = if s.dark = true then (s, 5) else if k < 0 ∨ (L.n : Int) ≤ k then (s, 2)
      else if s.left = 0 then ({ (s.erased k.toNat).stepped with b := splice s.b (1024 * k.toNat) (halfN ((s.b.drop (1024 * k.toNat)).take 1024) s.pick) }, 5)
      else ({ (s.erased k.toNat).stepped with b := splice s.b (1024 * k.toNat) (List.replicate 1024 255) }, 0)) := by
    show s.eraseF k = _
    unfold FS.eraseF; rw [hel]
  cases hd : s.dark with
  | true =>
    rw [hd] at EF
    have EG : Hid (s.eraseF k = (s, 5)) := by show _ = _; rw [EF.out, if_pos rfl]
    clear EF
    obtain ⟨bf, gb, ge, N, capb, n, af, pA, pc, pk⟩ := L
    have c0 := h.f.cellD 0 _ rfl
    have c1 := h.f.cellD 1 _ rfl
    have c2 := h.f.cellD 2 _ rfl
    have c3 := h.f.cellD 3 _ rfl
    have c4 := h.f.cellD 4 _ rfl
    have c5 := h.f.cellD 5 _ rfl
    have c6 := h.f.cellD 6 _ rfl
    have hcap := h.bs.le
    have hcmx := h.bs.max
    have hN := h.nN
    have hn0 := h.n0
    have hn9 := h.n9
    have H := Lib.hid h
    simp only [] at c0 c1 c2 c3 c4 c5 c6 hcap hcmx hN hn0 hn9
    have hNb : N ≤ 262144 := by omega
    have hN1 : 1024 ≤ N := by omega
    have HN := Lib.hid hN
    clear h hN
    simp only [FL.p, FL.pv]
    rw [hd] at c3
    clear hd hel her
    go_enter Try.func96, Try.ntmps96
    go_wp2
    go_ret
    rw [EG.out]
    exact ⟨rfl, _, HT.out⟩
  | false =>
  rw [hd] at EF
  by_cases q1 : k < 0
  · have d1 : decide (k < 0) = true := decide_eq_true q1
    have EG : Hid (s.eraseF k = (s, 2)) := by show _ = _; rw [EF.out, if_neg (by decide), if_pos (.inl q1)]
    clear EF
    obtain ⟨bf, gb, ge, N, capb, n, af, pA, pc, pk⟩ := L
    have c0 := h.f.cellD 0 _ rfl
    have c1 := h.f.cellD 1 _ rfl
    have c2 := h.f.cellD 2 _ rfl
    have c3 := h.f.cellD 3 _ rfl
    have c4 := h.f.cellD 4 _ rfl
    have c5 := h.f.cellD 5 _ rfl
    have c6 := h.f.cellD 6 _ rfl
    have hcap := h.bs.le
    have hcmx := h.bs.max
    have hN := h.nN
    have hn0 := h.n0
    have hn9 := h.n9
    have H := Lib.hid h
    simp only [] at c0 c1 c2 c3 c4 c5 c6 hcap hcmx hN hn0 hn9
    have hNb : N ≤ 262144 := by omega
    have hN1 : 1024 ≤ N := by omega
    have HN := Lib.hid hN
    clear h hN
    simp only [FL.p, FL.pv]
    rw [hd] at c3
    clear hd hel her
    go_enter Try.func96, Try.ntmps96
    go_wp2
    go_ret
    rw [EG.out]
    exact ⟨rfl, _, HT.out⟩
  have d1 : decide (k < 0) = false := decide_eq_false q1
  by_cases q2 : (L.n : Int) ≤ k
  · have d2 : decide ((L.n : Int) ≤ k) = true := decide_eq_true q2
    have EG : Hid (s.eraseF k = (s, 2)) := by show _ = _; rw [EF.out, if_neg (by decide), if_pos (.inr q2)]
    clear EF
    obtain ⟨bf, gb, ge, N, capb, n, af, pA, pc, pk⟩ := L
    have c0 := h.f.cellD 0 _ rfl
    have c1 := h.f.cellD 1 _ rfl
    have c2 := h.f.cellD 2 _ rfl
    have c3 := h.f.cellD 3 _ rfl
    have c4 := h.f.cellD 4 _ rfl
    have c5 := h.f.cellD 5 _ rfl
    have c6 := h.f.cellD 6 _ rfl
    have hcap := h.bs.le
    have hcmx := h.bs.max
    have hN := h.nN
    have hn0 := h.n0
    have hn9 := h.n9
    have H := Lib.hid h
    simp only [] at c0 c1 c2 c3 c4 c5 c6 hcap hcmx hN hn0 hn9
    have hNb : N ≤ 262144 := by omega
    have hN1 : 1024 ≤ N := by omega
    have HN := Lib.hid hN
    clear h hN
    simp only [FL.p, FL.pv]
    simp only [] at d2 q2
    rw [hd] at c3
    clear hd hel her
    go_enter Try.func96, Try.ntmps96
    go_wp2
    go_ret
    rw [EG.out]
    exact ⟨rfl, _, HT.out⟩
  obtain ⟨i, rfl⟩ : ∃ i : Nat, k = i := ⟨k.toNat, by omega⟩
  have d2 : decide ((L.n : Int) ≤ i) = false := decide_eq_false q2
  have d3 : decide (L.n ≤ i) = false := decide_eq_false (by omega)
  have hi : i < L.n := by omega
  have hc := h.e.cellD i _ (map_getD 0 (by rw [hel]; exact hi))
  have hfz := h.e.frozen i
  have hs8 := her i
  obtain ⟨a, ha⟩ : ∃ a, 1024 * i = a := ⟨_, rfl⟩
  have haN : a + 1024 ≤ L.N := by have := h.nN; omega
  simp only [Int.toNat_natCast] at EF
  rw [ha, if_neg (by decide), if_neg (by omega)] at EF
  obtain ⟨st1, st2⟩ := hst
  -- the flash with one more erasure counted
  have ES := Lib.hid (fun w' (hk : Keeps (fun k => k = L.ge) w w') (he : Blk w' L.ge ((s.er.map (.int .i64)).set i (.int .i64 (s.er.getD i 0 + 1))) 3) => show FAt w' B L (s.erased i) from h.sect hk (by rw [← List.map_set] at he; exact he) (by rw [List.length_set]))
  have BRK := Lib.hid (fun w' (hh : FAt w' B L (s.erased i)) => fbroken_any B L (s.erased i) w' hh ⟨st1, st2⟩)
  have EB : Hid ((s.erased i).stepped.b = s.b) := by show (s.erased i).stepped.b = s.b; rw [FS.stepped_b]; rfl
  have BE := Lib.hid h.e
  have LFT : Hid ((s.erased i).left = s.left) := rfl
  generalize s.er.getD i 0 = x at *
  generalize s.erased i = s1 at *
  clear HT hel her q1 q2
  obtain ⟨bf, gb, ge, N, capb, n, af, pA, pc, pk⟩ := L
  have c0 := h.f.cellD 0 _ rfl
  have c1 := h.f.cellD 1 _ rfl
  have c2 := h.f.cellD 2 _ rfl
  have c3 := h.f.cellD 3 _ rfl
  have c4 := h.f.cellD 4 _ rfl
  have c5 := h.f.cellD 5 _ rfl
  have c6 := h.f.cellD 6 _ rfl
  have hcap := h.bs.le
  have hcmx := h.bs.max
  have hN := h.nN
  have hn0 := h.n0
  have hn9 := h.n9
  have H := Lib.hid h
  simp only [] at c0 c1 c2 c3 c4 c5 c6 hcap hcmx hN hn0 hn9
  have hNb : N ≤ 262144 := by omega
  have hN1 : 1024 ≤ N := by omega
  have HN := Lib.hid hN
  clear h hN
  simp only [FL.p, FL.pv]
  simp only [] at d2 d3 hi hc hfz haN
  rw [hd] at c3
  clear hd
  simp only [FL.p] at BRK
  have f1 : (1024 * (i : Int)) = a := by omega
  have f2 : ((i : Int) * 1024) = a := by omega
  have f3 : (((i : Int) + 1) * 1024) = (a : Int) + 1024 := by omega
  have f4 : ¬ capb = a := by omega
  have f5 : a + 1024 - a = 1024 := by omega
  have f6 : i * 1024 = a := by omega
  have f7 : (i + 1) * 1024 = a + 1024 := by omega
  by_cases h0 : s.left = 0
  · have EL : Hid (decide (s1.left = 0) = true) := by show decide (s1.left = 0) = true; rw [LFT.out]; exact decide_eq_true h0
    have ER : Hid (s.eraseF i = ({ s1.stepped with b := splice s.b a (halfN ((s.b.drop a).take 1024) s.pick) }, 5)) := by show _ = _; rw [EF.out, if_pos h0]
    have hpk := (H.out.armed (by omega)).2
    simp only [] at hpk
    rw [← hpk] at ER
    clear EF h0 hpk
    go_enter Try.func96, Try.ntmps96
    go_wp2_with fail
    have KE : Hid (Keeps (fun k => k = ge) w (w.setCell ⟨ge, i, none⟩ (.int .i64 (x + 1)))) := (Keeps.self ge w).put i _
    have F1 := Lib.hid (ES.out _ KE.out (BE.out.set i _))
    refine (BRK.out _ F1.out).mono ?_
    rintro e w2 ⟨rfl, kb, af2, hf2⟩
    rw [EL.out]
    have K2 : Hid (Keeps (fun k => k = bf ∨ k = gb ∨ k = ge) w w2) := KE.out.trans kb (fun _ h => .inr (.inr h)) (fun _ _ h => .inl h)
    have y6 := hf2.f.cellD 6 _ rfl
    simp only [] at y6
    have F2 := Lib.hid hf2
    have C2 : Hid (Bs w2 (some ⟨gb, a, none⟩) 1024 (capb - a) ((s.b.drop a).take 1024)) := by have := hf2.cut (i := a) (j := 1024) haN; rwa [EB.out] at this
    have P2 : Hid (Bs w2 pA pk.length pc pk) := ownBs (show Own w2 B (.slice pA pk.length pc) pk from hf2.p)
    clear kb hf2 KE F1 BRK ES BE
    go_wp2_with fail
    refine (half_any _ _ _ _ _ _ _ _ _ C2.out P2.out (by omega)).mono ?_
    rintro e w3 ⟨v3, rfl, o3, k3⟩
    obtain ⟨A3, c3, rfl, bs3, -⟩ := o3.shape
    have TL := halfN_len ((s.b.drop a).take 1024) pk
    rw [C2.out.len] at TL
    rw [TL] at bs3 ⊢
    have TT : Hid ((halfN ((s.b.drop a).take 1024) pk).take 1024 = halfN ((s.b.drop a).take 1024) pk) := List.take_of_length_le (by omega)
    have B3 := Lib.hid bs3
    have F3 := Lib.hid (F2.out.later k3)
    have K3 : Hid (Keeps (fun k => k = bf ∨ k = gb ∨ k = ge) w w3) := K2.out.trans k3 (fun _ h => h) (fun _ _ h => h.elim)
    clear o3 k3 bs3 TL
    go_wp2_with (with_reducible refine wpList_copy_bs (B := B) (g := gb) (off := a) (n := N) (cap := capb) rfl rfl rfl rfl (by first | (intro _; rfl) | (intro h0; omega)) F3.out.b B3.out (by omega) ?_)
    intro w4 o4 k4
    rw [TT.out, EB.out] at o4
    have F4 := F3.out.bytes k4 o4
    have K4 := Lib.hid k4
    have HF4 := Lib.hid F4
    clear o4 k4 F4
    go_wp2
    go_ret
    refine ⟨by rw [ER.out]; rfl, ⟨bf, gb, ge, N, capb, n, af2, pA, pc, pk⟩, ?_, (K3.out.trans K4.out (T := fun k => k = bf ∨ k = gb ∨ k = ge) (fun _ h => h) (fun _ _ h => .inr (.inl h))).mono (fun _ _ h => .inl h), rfl, rfl, fun _ h => .inl h⟩
    rw [ER.out]
    exact HF4.out
  · have EL : Hid (decide (s1.left = 0) = false) := by show decide (s1.left = 0) = false; rw [LFT.out]; exact decide_eq_false h0
    have ER : Hid (s.eraseF i = ({ s1.stepped with b := splice s.b a (List.replicate 1024 255) }, 0)) := by show _ = _; rw [EF.out, if_neg h0]
    have BL : Hid (∀ w, Calls Try.prog 46 #[.int .i64 1024] w (Cloned w (List.replicate 1024 255))) := fun w => blank_any 1024 w
    have BKL : Hid ((List.replicate 1024 (255 : Int)).length = 1024) := List.length_replicate
    generalize List.replicate 1024 (255 : Int) = bk at *
    clear EF h0
    go_enter Try.func96, Try.ntmps96
    go_wp2_with fail
    have KE : Hid (Keeps (fun k => k = ge) w (w.setCell ⟨ge, i, none⟩ (.int .i64 (x + 1)))) := (Keeps.self ge w).put i _
    have F1 := Lib.hid (ES.out _ KE.out (BE.out.set i _))
    refine (BRK.out _ F1.out).mono ?_
    rintro e w2 ⟨rfl, kb, af2, hf2⟩
    rw [EL.out]
    have K2 : Hid (Keeps (fun k => k = bf ∨ k = gb ∨ k = ge) w w2) := KE.out.trans kb (fun _ h => .inr (.inr h)) (fun _ _ h => .inl h)
    have F2 := Lib.hid hf2
    clear kb hf2 KE F1 BRK ES BE
    go_wp2_with fail
    refine (BL.out _).mono ?_
    rintro e w3 ⟨v3, rfl, o3, k3⟩
    obtain ⟨A3, c3, rfl, bs3, -⟩ := o3.shape
    rw [BKL.out] at bs3 ⊢
    have TT : Hid (bk.take 1024 = bk) := List.take_of_length_le (by rw [BKL.out]; exact Nat.le_refl _)
    have B3 := Lib.hid bs3
    have F3 := Lib.hid (F2.out.later k3)
    have K3 : Hid (Keeps (fun k => k = bf ∨ k = gb ∨ k = ge) w w3) := K2.out.trans k3 (fun _ h => h) (fun _ _ h => h.elim)
    clear o3 k3 bs3
    go_wp2_with (with_reducible refine wpList_copy_bs (B := B) (g := gb) (off := a) (n := N) (cap := capb) rfl rfl rfl rfl (by first | (intro _; rfl) | (intro h0; omega)) F3.out.b B3.out (by omega) ?_)
    intro w4 o4 k4
    rw [TT.out, EB.out] at o4
    have F4 := F3.out.bytes k4 o4
    have K4 := Lib.hid k4
    have HF4 := Lib.hid F4
    clear o4 k4 F4
    go_wp2
    go_ret
    refine ⟨by rw [ER.out]; rfl, ⟨bf, gb, ge, N, capb, n, af2, pA, pc, pk⟩, ?_, (K3.out.trans K4.out (T := fun k => k = bf ∨ k = gb ∨ k = ge) (fun _ h => h) (fun _ _ h => .inr (.inl h))).mono (fun _ _ h => .inl h), rfl, rfl, fun _ h => .inl h⟩
    rw [ER.out]
    exact HF4.out

theorem Try.infoI3 : (Try.prog.info? 3).map (fun i => (i.zero, i.size, i.bytes)) = some (some (.int .i64 0), 1, 8) := by kernel_rfl
/-- A flash that was made. -/
def Made (w : World) (n : Int) (e : Ending) (w' : World) : Prop := ∃ L, e = .returned (.pointer (some ⟨L.bf, 0, none⟩)) ∧ FAt w' w.heap.size L (newF n) ∧ L.n = (max 1 (min n 256)).toNat ∧ Keeps None w w'

theorem rep_add (a b : Nat) : List.replicate a (255 : Int) ++ List.replicate b 255 = List.replicate (a + b) 255 := by rw [List.replicate_append_replicate]
set_option maxRecDepth 100000 in
set_option maxHeartbeats 800000 in
theorem fnew_low (k : Int) (n : Nat) (w : World) (hn1 : 1 ≤ n) (hn2 : n ≤ 256) (hk : k ≤ 1) (hL : 1 = (n : Int)) (HN : Hid (newF k = { b := List.replicate (1024 * n) 255, er := List.replicate n 0, steps := 0, left := -1, pick := [], dark := false })) (HM : Hid (n = (max 1 (min k 256)).toNat)) : Calls Try.prog 22 #[.int .i64 k] w (Made w k) := by
  have hmk := fun w => run_make_blk (P := Try.prog) 79 3 (.int .i64 0) 8 Try.underlying79 Try.infoI3 rfl .i64 .i64 _ _ n hL hL (by omega) (by omega) w
  have BL : Hid (∀ w, Calls Try.prog 46 #[.int .i64 1024] w (Cloned w (List.replicate 1024 255))) := fun w => blank_any 1024 w
  have HL := Lib.hid hL
  clear hL
  go_enter Try.func22, Try.ntmps22
  go_wp2
  have e0 : (w.alloc (.cells (List.replicate n (Value.int .i64 0)).toArray 3)).heap.size = w.heap.size + 1 := by simp
  have BE0 : Hid (Blk ((w.alloc (.cells (List.replicate n (Value.int .i64 0)).toArray 3)).alloc (.cells #[.slice none 0 0, .slice (some ⟨w.heap.size, 0, none⟩) n n, .int .i64 0, .bool false, .bool false, .int .i64 0, .slice none 0 0] 81)) w.heap.size (List.replicate n (.int .i64 0)) 3) := (Blk.new w (List.replicate n (.int .i64 0)) 3).alloc _
  have BF0 : Hid (Blk ((w.alloc (.cells (List.replicate n (Value.int .i64 0)).toArray 3)).alloc (.cells #[.slice none 0 0, .slice (some ⟨w.heap.size, 0, none⟩) n n, .int .i64 0, .bool false, .bool false, .int .i64 0, .slice none 0 0] 81)) (w.heap.size + 1) [.slice none 0 0, .slice (some ⟨w.heap.size, 0, none⟩) n n, .int .i64 0, .bool false, .bool false, .int .i64 0, .slice none 0 0] 81) := by
    have := Blk.new (w.alloc (.cells (List.replicate n (Value.int .i64 0)).toArray 3)) [.slice none 0 0, .slice (some ⟨w.heap.size, 0, none⟩) n n, .int .i64 0, .bool false, .bool false, .int .i64 0, .slice none 0 0] 81
    rw [e0] at this
    exact this
  have K0 : Hid (Keeps None w ((w.alloc (.cells (List.replicate n (Value.int .i64 0)).toArray 3)).alloc (.cells #[.slice none 0 0, .slice (some ⟨w.heap.size, 0, none⟩) n n, .int .i64 0, .bool false, .bool false, .int .i64 0, .slice none 0 0] 81))) := ((Keeps.refl None w).alloc _).alloc _
  clear e0 hmk
  go_loopw [13] (fun iv wr => ∃ (j : Nat) (A : Option Addr) (c : Nat), j ≤ n ∧ iv = .int .i64 j ∧ Blk wr (w.heap.size + 1) [.slice A (1024 * j) c, .slice (some ⟨w.heap.size, 0, none⟩) n n, .int .i64 0, .bool false, .bool false, .int .i64 0, .slice none 0 0] 81 ∧ Blk wr w.heap.size (List.replicate n (.int .i64 0)) 3 ∧ Own wr (w.heap.size + 2) (.slice A (1024 * j) c) (List.replicate (1024 * j) 255) ∧ Keeps None w wr) (fun iv _ => n - (intOf iv).toNat)
  case atStart =>
    refine ⟨0, none, 0, Nat.zero_le _, rfl, ?_, ?_, Own.nil _ _, ?_⟩
    · simpa using BF0.out
    · simpa using BE0.out
    · simpa using K0.out
  case round =>
    obtain ⟨j, A, c, hj, rfl, hbf, hbe, hbo, hkp⟩ := hrel
    have HBF := Lib.hid hbf
    have HBE := Lib.hid hbe
    have HBO := Lib.hid hbo
    have HKP := Lib.hid hkp
    clear hbf hbe hbo hkp BE0 BF0 K0
    obtain ⟨wv, rfl⟩ : ∃ x, x = wr := ⟨_, rfl⟩
    by_cases hlt : j < n
    · have x1 : decide (j < n) = true := decide_eq_true hlt
      have x2 : decide ((j : Int) < 1) = true := decide_eq_true (by have := HL.out; omega)
      have E1 : Hid (1024 * j + 1024 = 1024 * (j + 1)) := by show 1024 * j + 1024 = 1024 * (j + 1); omega
      go_wp2
      obtain ⟨mS, mh⟩ : ∃ S : World → Prop, ∀ w', S w' ↔ (w'.cell? ⟨w.heap.size + 1, 0, none⟩ = some (.slice A (1024 * j) c)) := ⟨_, fun _ => Iff.rfl⟩
      have mk0 : ∀ x : Memb mS, x.at_.cell? ⟨w.heap.size + 1, 0, none⟩ = some (.slice A (1024 * j) c) := fun x => ((mh _).1 x.is)
      have mn : Nonempty (Memb mS) := ⟨⟨(wv).drew, (mh _).2 (HBF.out.cellD 0 _ rfl)⟩⟩
      have mH := Lib.hid mh
      clear mh
      refine wp_region_mix [5, 6, 9] (InS mS) (by kernel_rfl) (by kernel_rfl) (InS.mk ((mH.out _).2 (HBF.out.cellD 0 _ rfl))) ?_
      refine wpMix_seg 5 (by kernel_rfl) (by decide) ?_
      simp only [List.take_succ_cons, List.take_zero, List.drop_succ_cons, List.drop_zero]
      repeat (go_big_quiet_step (fail))
      refine wpQuiet_nil ?_
      refine wpMix_eff (by kernel_rfl) ?_
      go_wp2_with fail
      refine (BL.out _).mono ?_
      rintro e w3 ⟨v3, rfl, o3, k3⟩
      obtain ⟨A3, c3, rfl, bs3, -⟩ := o3.shape
      rw [List.length_replicate] at bs3 ⊢
      have B3 := Lib.hid bs3
      have BF3 := Lib.hid (k3.blk HBF.out.drew (fun h => h))
      have BE3 := Lib.hid (k3.blk HBE.out.drew (fun h => h))
      have BO3 := Lib.hid (HBO.out.drew.keeps k3 (fun _ _ h => h))
      have K3 := Lib.hid (HKP.out.drew.trans k3 (T := None) (fun _ h => h) (fun _ _ h => h))
      clear o3 bs3 k3
      go_wp2
      refine MixK.on (InS.mk ((mH.out _).2 (BF3.out.cellD 0 _ rfl))) ?_
      refine wpMix_eff (by kernel_rfl) ?_
      go_wp2_with (at_builtin; refine Hid.out ?_)
      refine Lib.hid ?_
      refine wpList_append_bs BO3.out B3.out (by rw [List.length_replicate]; omega) (Nat.succ_le_of_lt BF3.out.lt) rfl rfl rfl rfl rfl ?_
      intro v4 w4 ho4 hk4
      rw [rep_add, E1.out] at ho4
      obtain ⟨A4, c4, rfl, bs4, -⟩ := ho4.shape
      rw [List.length_replicate] at ho4 ⊢
      have O4 := Lib.hid ho4
      have BF4 := Lib.hid (hk4.blk BF3.out (fun e => BO3.out.notBelow (by omega) e))
      have BE4 := Lib.hid (hk4.blk BE3.out (fun e => BO3.out.notBelow (by omega) e))
      have K4 := Lib.hid (K3.out.trans hk4 (T := None) (fun _ h => h) (fun i hi e => absurd e (BO3.out.notBelow (by omega))))
      clear ho4 hk4 bs4 BF3 BE3 BO3 K3 B3
      have y0 := BF4.out.cellD 0 _ rfl
      have z0 := BF4.out.frozen 0
      go_wp2
      refine MixK.on (InS.mk ((mH.out _).2 (y0))) ?_
      refine wpMix_seg 2 (by kernel_rfl) (by decide) ?_
      simp only [List.take_succ_cons, List.take_zero, List.drop_succ_cons, List.drop_zero]
      repeat (go_big_quiet_step (fail))
      refine wpQuiet_nil ?_
      refine wpMix_eff (by kernel_rfl) ?_
      go_wp2
      refine MixK.last (by kernel_rfl) ?_
      refine wpMix_nil ?_
      clear mk0 mn mH
      have GN : Hid (w.heap.size + 1 < w.heap.size + 2) := Nat.lt_succ_self _
      have O5 := Lib.hid (O4.out.keeps ((Keeps.self (w.heap.size + 1) w4).put 0 (.slice A4 (1024 * (j + 1)) c4)) (fun b e h => O4.out.notBelow (i := b) (by subst h; exact GN.out) e))
      have BE5 := Lib.hid (BE4.out.setOther ⟨w.heap.size + 1, 0, none⟩ (.slice A4 (1024 * (j + 1)) c4) (Nat.ne_of_lt (Nat.lt_succ_self _)))
      have BF5 := Lib.hid (BF4.out.set 0 (.slice A4 (1024 * (j + 1)) c4))
      have K5 := Lib.hid (K4.out.setCell ⟨w.heap.size + 1, 0, none⟩ (.slice A4 (1024 * (j + 1)) c4) (fun h => absurd h (Nat.not_lt.2 (Nat.le_succ _))))
      clear O4 BF4 BE4 K4 y0 z0
      go_wp2
      go_roundw
      case rel => exact ⟨j + 1, A4, c4, hlt, by go_num, BF5.out, BE5.out, O5.out, K5.out⟩
      case measure => simp [intOf]; omega
    · obtain rfl : j = n := by omega
      have x2 : decide ((j : Int) < 1) = false := decide_eq_false (by have := HL.out; omega)
      obtain ⟨gb, rfl, hg1, -, -, hle, hmx, -, -⟩ := HBO.out.at_ (k := 0) (by omega)
      go_wp2
      go_ret
      refine ⟨⟨w.heap.size + 1, gb, w.heap.size, 1024 * j, c, j, 0, none, 0, []⟩, rfl, ?_, HM.out, HKP.out⟩
      rw [HN.out]
      exact ⟨HBF.out, HBO.out.lower (by omega), by simpa using HBE.out, Own.nil _ _, by simp, fun h => absurd h (show ¬ (0 : Int) ≤ -1 by decide), (show (-1 : Int) ≤ -1 by decide), (show (-1 : Int) ≤ 9223372036854775807 by decide), rfl, hn1, hn2, Nat.le_succ _, Nat.le_refl _, by show w.heap.size + 1 ≠ gb; omega, by show w.heap.size + 1 ≠ w.heap.size; omega, by show gb ≠ w.heap.size; omega, fun g hg => by cases hg⟩
set_option maxRecDepth 100000 in
set_option maxHeartbeats 800000 in
theorem fnew_high (k : Int) (n : Nat) (w : World) (hn1 : 1 ≤ n) (hn2 : n ≤ 256) (hk : 256 < k) (hL : 256 = (n : Int)) (HN : Hid (newF k = { b := List.replicate (1024 * n) 255, er := List.replicate n 0, steps := 0, left := -1, pick := [], dark := false })) (HM : Hid (n = (max 1 (min k 256)).toNat)) : Calls Try.prog 22 #[.int .i64 k] w (Made w k) := by
  have hmk := fun w => run_make_blk (P := Try.prog) 79 3 (.int .i64 0) 8 Try.underlying79 Try.infoI3 rfl .i64 .i64 _ _ n hL hL (by omega) (by omega) w
  have BL : Hid (∀ w, Calls Try.prog 46 #[.int .i64 1024] w (Cloned w (List.replicate 1024 255))) := fun w => blank_any 1024 w
  have HL := Lib.hid hL
  clear hL
  go_enter Try.func22, Try.ntmps22
  go_wp2
  have e0 : (w.alloc (.cells (List.replicate n (Value.int .i64 0)).toArray 3)).heap.size = w.heap.size + 1 := by simp
  have BE0 : Hid (Blk ((w.alloc (.cells (List.replicate n (Value.int .i64 0)).toArray 3)).alloc (.cells #[.slice none 0 0, .slice (some ⟨w.heap.size, 0, none⟩) n n, .int .i64 0, .bool false, .bool false, .int .i64 0, .slice none 0 0] 81)) w.heap.size (List.replicate n (.int .i64 0)) 3) := (Blk.new w (List.replicate n (.int .i64 0)) 3).alloc _
  have BF0 : Hid (Blk ((w.alloc (.cells (List.replicate n (Value.int .i64 0)).toArray 3)).alloc (.cells #[.slice none 0 0, .slice (some ⟨w.heap.size, 0, none⟩) n n, .int .i64 0, .bool false, .bool false, .int .i64 0, .slice none 0 0] 81)) (w.heap.size + 1) [.slice none 0 0, .slice (some ⟨w.heap.size, 0, none⟩) n n, .int .i64 0, .bool false, .bool false, .int .i64 0, .slice none 0 0] 81) := by
    have := Blk.new (w.alloc (.cells (List.replicate n (Value.int .i64 0)).toArray 3)) [.slice none 0 0, .slice (some ⟨w.heap.size, 0, none⟩) n n, .int .i64 0, .bool false, .bool false, .int .i64 0, .slice none 0 0] 81
    rw [e0] at this
    exact this
  have K0 : Hid (Keeps None w ((w.alloc (.cells (List.replicate n (Value.int .i64 0)).toArray 3)).alloc (.cells #[.slice none 0 0, .slice (some ⟨w.heap.size, 0, none⟩) n n, .int .i64 0, .bool false, .bool false, .int .i64 0, .slice none 0 0] 81))) := ((Keeps.refl None w).alloc _).alloc _
  clear e0 hmk
  go_loopw [13] (fun iv wr => ∃ (j : Nat) (A : Option Addr) (c : Nat), j ≤ n ∧ iv = .int .i64 j ∧ Blk wr (w.heap.size + 1) [.slice A (1024 * j) c, .slice (some ⟨w.heap.size, 0, none⟩) n n, .int .i64 0, .bool false, .bool false, .int .i64 0, .slice none 0 0] 81 ∧ Blk wr w.heap.size (List.replicate n (.int .i64 0)) 3 ∧ Own wr (w.heap.size + 2) (.slice A (1024 * j) c) (List.replicate (1024 * j) 255) ∧ Keeps None w wr) (fun iv _ => n - (intOf iv).toNat)
  case atStart =>
    refine ⟨0, none, 0, Nat.zero_le _, rfl, ?_, ?_, Own.nil _ _, ?_⟩
    · simpa using BF0.out
    · simpa using BE0.out
    · simpa using K0.out
  case round =>
    obtain ⟨j, A, c, hj, rfl, hbf, hbe, hbo, hkp⟩ := hrel
    have HBF := Lib.hid hbf
    have HBE := Lib.hid hbe
    have HBO := Lib.hid hbo
    have HKP := Lib.hid hkp
    clear hbf hbe hbo hkp BE0 BF0 K0
    obtain ⟨wv, rfl⟩ : ∃ x, x = wr := ⟨_, rfl⟩
    by_cases hlt : j < n
    · have x1 : decide (j < n) = true := decide_eq_true hlt
      have x2 : decide ((j : Int) < 256) = true := decide_eq_true (by have := HL.out; omega)
      have E1 : Hid (1024 * j + 1024 = 1024 * (j + 1)) := by show 1024 * j + 1024 = 1024 * (j + 1); omega
      go_wp2
      obtain ⟨mS, mh⟩ : ∃ S : World → Prop, ∀ w', S w' ↔ (w'.cell? ⟨w.heap.size + 1, 0, none⟩ = some (.slice A (1024 * j) c)) := ⟨_, fun _ => Iff.rfl⟩
      have mk0 : ∀ x : Memb mS, x.at_.cell? ⟨w.heap.size + 1, 0, none⟩ = some (.slice A (1024 * j) c) := fun x => ((mh _).1 x.is)
      have mn : Nonempty (Memb mS) := ⟨⟨(wv).drew, (mh _).2 (HBF.out.cellD 0 _ rfl)⟩⟩
      have mH := Lib.hid mh
      clear mh
      refine wp_region_mix [5, 6, 9] (InS mS) (by kernel_rfl) (by kernel_rfl) (InS.mk ((mH.out _).2 (HBF.out.cellD 0 _ rfl))) ?_
      refine wpMix_seg 5 (by kernel_rfl) (by decide) ?_
      simp only [List.take_succ_cons, List.take_zero, List.drop_succ_cons, List.drop_zero]
      repeat (go_big_quiet_step (fail))
      refine wpQuiet_nil ?_
      refine wpMix_eff (by kernel_rfl) ?_
      go_wp2_with fail
      refine (BL.out _).mono ?_
      rintro e w3 ⟨v3, rfl, o3, k3⟩
      obtain ⟨A3, c3, rfl, bs3, -⟩ := o3.shape
      rw [List.length_replicate] at bs3 ⊢
      have B3 := Lib.hid bs3
      have BF3 := Lib.hid (k3.blk HBF.out.drew (fun h => h))
      have BE3 := Lib.hid (k3.blk HBE.out.drew (fun h => h))
      have BO3 := Lib.hid (HBO.out.drew.keeps k3 (fun _ _ h => h))
      have K3 := Lib.hid (HKP.out.drew.trans k3 (T := None) (fun _ h => h) (fun _ _ h => h))
      clear o3 bs3 k3
      go_wp2
      refine MixK.on (InS.mk ((mH.out _).2 (BF3.out.cellD 0 _ rfl))) ?_
      refine wpMix_eff (by kernel_rfl) ?_
      go_wp2_with (at_builtin; refine Hid.out ?_)
      refine Lib.hid ?_
      refine wpList_append_bs BO3.out B3.out (by rw [List.length_replicate]; omega) (Nat.succ_le_of_lt BF3.out.lt) rfl rfl rfl rfl rfl ?_
      intro v4 w4 ho4 hk4
      rw [rep_add, E1.out] at ho4
      obtain ⟨A4, c4, rfl, bs4, -⟩ := ho4.shape
      rw [List.length_replicate] at ho4 ⊢
      have O4 := Lib.hid ho4
      have BF4 := Lib.hid (hk4.blk BF3.out (fun e => BO3.out.notBelow (by omega) e))
      have BE4 := Lib.hid (hk4.blk BE3.out (fun e => BO3.out.notBelow (by omega) e))
      have K4 := Lib.hid (K3.out.trans hk4 (T := None) (fun _ h => h) (fun i hi e => absurd e (BO3.out.notBelow (by omega))))
      clear ho4 hk4 bs4 BF3 BE3 BO3 K3 B3
      have y0 := BF4.out.cellD 0 _ rfl
      have z0 := BF4.out.frozen 0
      go_wp2
      refine MixK.on (InS.mk ((mH.out _).2 (y0))) ?_
      refine wpMix_seg 2 (by kernel_rfl) (by decide) ?_
      simp only [List.take_succ_cons, List.take_zero, List.drop_succ_cons, List.drop_zero]
      repeat (go_big_quiet_step (fail))
      refine wpQuiet_nil ?_
      refine wpMix_eff (by kernel_rfl) ?_
      go_wp2
      refine MixK.last (by kernel_rfl) ?_
      refine wpMix_nil ?_
      clear mk0 mn mH
      have GN : Hid (w.heap.size + 1 < w.heap.size + 2) := Nat.lt_succ_self _
      have O5 := Lib.hid (O4.out.keeps ((Keeps.self (w.heap.size + 1) w4).put 0 (.slice A4 (1024 * (j + 1)) c4)) (fun b e h => O4.out.notBelow (i := b) (by subst h; exact GN.out) e))
      have BE5 := Lib.hid (BE4.out.setOther ⟨w.heap.size + 1, 0, none⟩ (.slice A4 (1024 * (j + 1)) c4) (Nat.ne_of_lt (Nat.lt_succ_self _)))
      have BF5 := Lib.hid (BF4.out.set 0 (.slice A4 (1024 * (j + 1)) c4))
      have K5 := Lib.hid (K4.out.setCell ⟨w.heap.size + 1, 0, none⟩ (.slice A4 (1024 * (j + 1)) c4) (fun h => absurd h (Nat.not_lt.2 (Nat.le_succ _))))
      clear O4 BF4 BE4 K4 y0 z0
      go_wp2
      go_roundw
      case rel => exact ⟨j + 1, A4, c4, hlt, by go_num, BF5.out, BE5.out, O5.out, K5.out⟩
      case measure => simp [intOf]; omega
    · obtain rfl : j = n := by omega
      have x2 : decide ((j : Int) < 256) = false := decide_eq_false (by have := HL.out; omega)
      obtain ⟨gb, rfl, hg1, -, -, hle, hmx, -, -⟩ := HBO.out.at_ (k := 0) (by omega)
      go_wp2
      go_ret
      refine ⟨⟨w.heap.size + 1, gb, w.heap.size, 1024 * j, c, j, 0, none, 0, []⟩, rfl, ?_, HM.out, HKP.out⟩
      rw [HN.out]
      exact ⟨HBF.out, HBO.out.lower (by omega), by simpa using HBE.out, Own.nil _ _, by simp, fun h => absurd h (show ¬ (0 : Int) ≤ -1 by decide), (show (-1 : Int) ≤ -1 by decide), (show (-1 : Int) ≤ 9223372036854775807 by decide), rfl, hn1, hn2, Nat.le_succ _, Nat.le_refl _, by show w.heap.size + 1 ≠ gb; omega, by show w.heap.size + 1 ≠ w.heap.size; omega, by show gb ≠ w.heap.size; omega, fun g hg => by cases hg⟩
set_option maxRecDepth 100000 in
set_option maxHeartbeats 800000 in
theorem fnew_mid (k : Int) (n : Nat) (w : World) (hn1 : 1 ≤ n) (hn2 : n ≤ 256) (hk : 1 < k ∧ k ≤ 256) (hL : k = (n : Int)) (HN : Hid (newF k = { b := List.replicate (1024 * n) 255, er := List.replicate n 0, steps := 0, left := -1, pick := [], dark := false })) (HM : Hid (n = (max 1 (min k 256)).toNat)) : Calls Try.prog 22 #[.int .i64 k] w (Made w k) := by
  have hmk := fun w => run_make_blk (P := Try.prog) 79 3 (.int .i64 0) 8 Try.underlying79 Try.infoI3 rfl .i64 .i64 _ _ n hL hL (by omega) (by omega) w
  have BL : Hid (∀ w, Calls Try.prog 46 #[.int .i64 1024] w (Cloned w (List.replicate 1024 255))) := fun w => blank_any 1024 w
  have HL := Lib.hid hL
  clear hL
  go_enter Try.func22, Try.ntmps22
  go_wp2
  have e0 : (w.alloc (.cells (List.replicate n (Value.int .i64 0)).toArray 3)).heap.size = w.heap.size + 1 := by simp
  have BE0 : Hid (Blk ((w.alloc (.cells (List.replicate n (Value.int .i64 0)).toArray 3)).alloc (.cells #[.slice none 0 0, .slice (some ⟨w.heap.size, 0, none⟩) n n, .int .i64 0, .bool false, .bool false, .int .i64 0, .slice none 0 0] 81)) w.heap.size (List.replicate n (.int .i64 0)) 3) := (Blk.new w (List.replicate n (.int .i64 0)) 3).alloc _
  have BF0 : Hid (Blk ((w.alloc (.cells (List.replicate n (Value.int .i64 0)).toArray 3)).alloc (.cells #[.slice none 0 0, .slice (some ⟨w.heap.size, 0, none⟩) n n, .int .i64 0, .bool false, .bool false, .int .i64 0, .slice none 0 0] 81)) (w.heap.size + 1) [.slice none 0 0, .slice (some ⟨w.heap.size, 0, none⟩) n n, .int .i64 0, .bool false, .bool false, .int .i64 0, .slice none 0 0] 81) := by
    have := Blk.new (w.alloc (.cells (List.replicate n (Value.int .i64 0)).toArray 3)) [.slice none 0 0, .slice (some ⟨w.heap.size, 0, none⟩) n n, .int .i64 0, .bool false, .bool false, .int .i64 0, .slice none 0 0] 81
    rw [e0] at this
    exact this
  have K0 : Hid (Keeps None w ((w.alloc (.cells (List.replicate n (Value.int .i64 0)).toArray 3)).alloc (.cells #[.slice none 0 0, .slice (some ⟨w.heap.size, 0, none⟩) n n, .int .i64 0, .bool false, .bool false, .int .i64 0, .slice none 0 0] 81))) := ((Keeps.refl None w).alloc _).alloc _
  clear e0 hmk
  go_loopw [13] (fun iv wr => ∃ (j : Nat) (A : Option Addr) (c : Nat), j ≤ n ∧ iv = .int .i64 j ∧ Blk wr (w.heap.size + 1) [.slice A (1024 * j) c, .slice (some ⟨w.heap.size, 0, none⟩) n n, .int .i64 0, .bool false, .bool false, .int .i64 0, .slice none 0 0] 81 ∧ Blk wr w.heap.size (List.replicate n (.int .i64 0)) 3 ∧ Own wr (w.heap.size + 2) (.slice A (1024 * j) c) (List.replicate (1024 * j) 255) ∧ Keeps None w wr) (fun iv _ => n - (intOf iv).toNat)
  case atStart =>
    refine ⟨0, none, 0, Nat.zero_le _, rfl, ?_, ?_, Own.nil _ _, ?_⟩
    · simpa using BF0.out
    · simpa using BE0.out
    · simpa using K0.out
  case round =>
    obtain ⟨j, A, c, hj, rfl, hbf, hbe, hbo, hkp⟩ := hrel
    have HBF := Lib.hid hbf
    have HBE := Lib.hid hbe
    have HBO := Lib.hid hbo
    have HKP := Lib.hid hkp
    clear hbf hbe hbo hkp BE0 BF0 K0
    obtain ⟨wv, rfl⟩ : ∃ x, x = wr := ⟨_, rfl⟩
    by_cases hlt : j < n
    · have x1 : decide (j < n) = true := decide_eq_true hlt
      have x2 : decide ((j : Int) < k) = true := decide_eq_true (by have := HL.out; omega)
      have E1 : Hid (1024 * j + 1024 = 1024 * (j + 1)) := by show 1024 * j + 1024 = 1024 * (j + 1); omega
      go_wp2
      obtain ⟨mS, mh⟩ : ∃ S : World → Prop, ∀ w', S w' ↔ (w'.cell? ⟨w.heap.size + 1, 0, none⟩ = some (.slice A (1024 * j) c)) := ⟨_, fun _ => Iff.rfl⟩
      have mk0 : ∀ x : Memb mS, x.at_.cell? ⟨w.heap.size + 1, 0, none⟩ = some (.slice A (1024 * j) c) := fun x => ((mh _).1 x.is)
      have mn : Nonempty (Memb mS) := ⟨⟨(wv).drew, (mh _).2 (HBF.out.cellD 0 _ rfl)⟩⟩
      have mH := Lib.hid mh
      clear mh
      refine wp_region_mix [5, 6, 9] (InS mS) (by kernel_rfl) (by kernel_rfl) (InS.mk ((mH.out _).2 (HBF.out.cellD 0 _ rfl))) ?_
      refine wpMix_seg 5 (by kernel_rfl) (by decide) ?_
      simp only [List.take_succ_cons, List.take_zero, List.drop_succ_cons, List.drop_zero]
      repeat (go_big_quiet_step (fail))
      refine wpQuiet_nil ?_
      refine wpMix_eff (by kernel_rfl) ?_
      go_wp2_with fail
      refine (BL.out _).mono ?_
      rintro e w3 ⟨v3, rfl, o3, k3⟩
      obtain ⟨A3, c3, rfl, bs3, -⟩ := o3.shape
      rw [List.length_replicate] at bs3 ⊢
      have B3 := Lib.hid bs3
      have BF3 := Lib.hid (k3.blk HBF.out.drew (fun h => h))
      have BE3 := Lib.hid (k3.blk HBE.out.drew (fun h => h))
      have BO3 := Lib.hid (HBO.out.drew.keeps k3 (fun _ _ h => h))
      have K3 := Lib.hid (HKP.out.drew.trans k3 (T := None) (fun _ h => h) (fun _ _ h => h))
      clear o3 bs3 k3
      go_wp2
      refine MixK.on (InS.mk ((mH.out _).2 (BF3.out.cellD 0 _ rfl))) ?_
      refine wpMix_eff (by kernel_rfl) ?_
      go_wp2_with (at_builtin; refine Hid.out ?_)
      refine Lib.hid ?_
      refine wpList_append_bs BO3.out B3.out (by rw [List.length_replicate]; omega) (Nat.succ_le_of_lt BF3.out.lt) rfl rfl rfl rfl rfl ?_
      intro v4 w4 ho4 hk4
      rw [rep_add, E1.out] at ho4
      obtain ⟨A4, c4, rfl, bs4, -⟩ := ho4.shape
      rw [List.length_replicate] at ho4 ⊢
      have O4 := Lib.hid ho4
      have BF4 := Lib.hid (hk4.blk BF3.out (fun e => BO3.out.notBelow (by omega) e))
      have BE4 := Lib.hid (hk4.blk BE3.out (fun e => BO3.out.notBelow (by omega) e))
      have K4 := Lib.hid (K3.out.trans hk4 (T := None) (fun _ h => h) (fun i hi e => absurd e (BO3.out.notBelow (by omega))))
      clear ho4 hk4 bs4 BF3 BE3 BO3 K3 B3
      have y0 := BF4.out.cellD 0 _ rfl
      have z0 := BF4.out.frozen 0
      go_wp2
      refine MixK.on (InS.mk ((mH.out _).2 (y0))) ?_
      refine wpMix_seg 2 (by kernel_rfl) (by decide) ?_
      simp only [List.take_succ_cons, List.take_zero, List.drop_succ_cons, List.drop_zero]
      repeat (go_big_quiet_step (fail))
      refine wpQuiet_nil ?_
      refine wpMix_eff (by kernel_rfl) ?_
      go_wp2
      refine MixK.last (by kernel_rfl) ?_
      refine wpMix_nil ?_
      clear mk0 mn mH
      have GN : Hid (w.heap.size + 1 < w.heap.size + 2) := Nat.lt_succ_self _
      have O5 := Lib.hid (O4.out.keeps ((Keeps.self (w.heap.size + 1) w4).put 0 (.slice A4 (1024 * (j + 1)) c4)) (fun b e h => O4.out.notBelow (i := b) (by subst h; exact GN.out) e))
      have BE5 := Lib.hid (BE4.out.setOther ⟨w.heap.size + 1, 0, none⟩ (.slice A4 (1024 * (j + 1)) c4) (Nat.ne_of_lt (Nat.lt_succ_self _)))
      have BF5 := Lib.hid (BF4.out.set 0 (.slice A4 (1024 * (j + 1)) c4))
      have K5 := Lib.hid (K4.out.setCell ⟨w.heap.size + 1, 0, none⟩ (.slice A4 (1024 * (j + 1)) c4) (fun h => absurd h (Nat.not_lt.2 (Nat.le_succ _))))
      clear O4 BF4 BE4 K4 y0 z0
      go_wp2
      go_roundw
      case rel => exact ⟨j + 1, A4, c4, hlt, by go_num, BF5.out, BE5.out, O5.out, K5.out⟩
      case measure => simp [intOf]; omega
    · obtain rfl : j = n := by omega
      have x2 : decide ((j : Int) < k) = false := decide_eq_false (by have := HL.out; omega)
      obtain ⟨gb, rfl, hg1, -, -, hle, hmx, -, -⟩ := HBO.out.at_ (k := 0) (by omega)
      go_wp2
      go_ret
      refine ⟨⟨w.heap.size + 1, gb, w.heap.size, 1024 * j, c, j, 0, none, 0, []⟩, rfl, ?_, HM.out, HKP.out⟩
      rw [HN.out]
      exact ⟨HBF.out, HBO.out.lower (by omega), by simpa using HBE.out, Own.nil _ _, by simp, fun h => absurd h (show ¬ (0 : Int) ≤ -1 by decide), (show (-1 : Int) ≤ -1 by decide), (show (-1 : Int) ≤ 9223372036854775807 by decide), rfl, hn1, hn2, Nat.le_succ _, Nat.le_refl _, by show w.heap.size + 1 ≠ gb; omega, by show w.heap.size + 1 ≠ w.heap.size; omega, by show gb ≠ w.heap.size; omega, fun g hg => by cases hg⟩
theorem fnew_any (k : Int) (w : World) : Calls Try.prog 22 #[.int .i64 k] w (Made w k) := by
  have HN : ∀ n : Nat, (max 1 (min k 256)).toNat = n → Hid (newF k = { b := List.replicate (1024 * n) 255, er := List.replicate n 0, steps := 0, left := -1, pick := [], dark := false }) := fun n hn => by
    show newF k = _
    unfold newF; rw [hn]
  by_cases h1 : k ≤ 1
  · have e : (max 1 (min k 256)).toNat = 1 := by omega
    exact fnew_low k 1 w (by decide) (by decide) h1 rfl (HN 1 e) e.symm
  · by_cases h2 : 256 < k
    · have e : (max 1 (min k 256)).toNat = 256 := by omega
      exact fnew_high k 256 w (by decide) (by decide) h2 rfl (HN 256 e) e.symm
    · have e : (max 1 (min k 256)).toNat = k.toNat := by omega
      exact fnew_mid k k.toNat w (by omega) (by omega) ⟨by omega, by omega⟩ (by omega) (HN _ e) e.symm
end Go.Proofs.Ytfldgaiiniknpaa
/- What the laws of a flash use: words programmed with no cut; slices beside a flash; the law's num and alive. -/
namespace Go.Proofs.Ytfldgaiiniknpaa
open Go.RowKit

theorem splice_splice (L X Y : List Int) (p : Nat) (h : p + X.length + Y.length ≤ L.length) : splice (splice L p X) (p + X.length) Y = splice L p (X ++ Y) := by
  simp only [splice]
  have h1 : (L.take p ++ (X ++ L.drop (p + X.length))).take (p + X.length) = L.take p ++ X := by
    rw [← List.append_assoc, List.take_append_of_le_length (by rw [List.length_append, List.length_take]; omega), List.take_of_length_le (by rw [List.length_append, List.length_take]; omega)]
  have h2 : (L.take p ++ (X ++ L.drop (p + X.length))).drop (p + X.length + Y.length) = L.drop (p + X.length + Y.length) := by
    have e := splice_drop L p (p + X.length + Y.length) X (by omega) (by omega)
    simpa [splice] using e
  rw [h1, h2, List.length_append, ← Nat.add_assoc, List.append_assoc, List.append_assoc]
theorem splice_empty (L : List Int) (p : Nat) : splice L p [] = L := splice_nil L p
theorem splice_mid (L X : List Int) (p : Nat) (h : p + X.length ≤ L.length) : ((splice L p X).drop p).take X.length = X := by
  simp only [splice]
  rw [List.drop_append_of_le_length (by rw [List.length_take]; omega), List.drop_of_length_le (by rw [List.length_take]; omega), List.nil_append, List.take_append_of_le_length (Nat.le_refl _), List.take_length]
theorem stepped_free {s : FS} (h : s.left < 0) : s.stepped = { s with steps := s.steps + 1 } := if_pos h
theorem progW_free : ∀ (k : Nat) (s : FS) (p : Nat) (ws : List Int), s.left < 0 → ws.length = 8 * k → p + 8 * k ≤ s.b.length → progW k s p ws = ({ s with b := splice s.b p ws, steps := s.steps + k }, 0)
  | 0, s, p, ws, _, hw, _ => by
    have : ws = [] := List.eq_nil_of_length_eq_zero (by omega)
    subst this
    rw [splice_empty]; show (s, (0 : Int)) = _; simp
  | k + 1, s, p, ws, hl, hw, hp => by
    have h8 : (ws.take 8).length = 8 := by rw [List.length_take]; omega
    show (if _ then _ else _) = _
    rw [if_neg (by omega), progW_free k _ _ _ (by show s.stepped.left < 0; rw [stepped_free hl]; exact hl) (by rw [List.length_drop]; omega) (by show _ ≤ (splice s.b p (ws.take 8)).length; rw [splice_len _ _ _ (by omega)]; omega)]
    rw [stepped_free hl]
    show (({ b := splice (splice s.b p (ws.take 8)) (p + 8) (ws.drop 8), er := s.er, steps := s.steps + 1 + (k : Int), left := s.left, pick := s.pick, dark := s.dark } : FS), (0 : Int)) = ({ b := splice s.b p ws, er := s.er, steps := s.steps + ((k + 1 : Nat) : Int), left := s.left, pick := s.pick, dark := s.dark }, 0)
    have e : splice (splice s.b p (ws.take 8)) (p + 8) (ws.drop 8) = splice s.b p ws := by
      have := splice_splice s.b (ws.take 8) (ws.drop 8) p (by rw [h8, List.length_drop]; omega)
      rw [h8, List.take_append_drop] at this
      exact this
    have e2 : s.steps + 1 + (k : Int) = s.steps + ((k + 1 : Nat) : Int) := by omega
    rw [e, e2]
/-- Words that can be programmed are, where no step is broken. -/
theorem prog_free {s : FS} (hd : s.dark = false) (hl : s.left < 0) {a K : Nat} {zs : List Int} (hz : zs.length = 8 * K) (ha : a % 8 = 0) (hb : a + zs.length ≤ s.b.length) (hc : canN ((s.b.drop a).take zs.length) zs = true) :
    s.progF a zs = ({ s with b := splice s.b a zs, steps := s.steps + K }, 0) := by
  unfold FS.progF
  have hw : withinB a zs.length s.b.length = true := decide_eq_true ⟨by omega, by omega, by omega, by omega⟩
  rw [hd, if_neg (by decide), hw, if_neg (by decide), if_neg (by omega), Int.toNat_natCast, hc, if_neg (by decide), progW_free _ _ _ _ hl (by omega) (by omega)]
  have : zs.length / 8 = K := by omega
  rw [this]
  simp [hd]
theorem progW_err : ∀ (k : Nat) (s : FS) (p : Nat) (ws : List Int), s.left < 0 → (progW k s p ws).2 = 0
  | 0, _, _, _, _ => rfl
  | k + 1, s, p, ws, hl => by
    show (if _ then _ else _ : FS × Int).2 = 0
    rw [if_neg (by omega)]
    exact progW_err k _ _ _ (by show s.stepped.left < 0; rw [stepped_free hl]; exact hl)
/-- What is refused changes nothing. -/
theorem prog_refused {s : FS} (hl : s.left < 0) (a : Int) (zs : List Int) (h : (s.progF a zs).2 ≠ 0) : (s.progF a zs).1 = s := by
  unfold FS.progF at h ⊢
  split
  · rfl
  · rename_i h1
    rw [if_neg h1] at h
    split
    · rfl
    · rename_i h2
      rw [if_neg h2] at h
      split
      · rfl
      · rename_i h3
        rw [if_neg h3] at h
        split
        · rfl
        · rename_i h4
          rw [if_neg h4] at h
          exact absurd (progW_err _ _ _ _ hl) h
theorem andNot255 : ∀ n : Fin 256, bits .andNot .u8 (n : Int) 255 = 0 := by decide +kernel
theorem canN_ff (ns : List Int) (hb : ∀ z ∈ ns, 0 ≤ z ∧ z ≤ 255) : canN (List.replicate ns.length 255) ns = true := by
  simp only [canN, decide_eq_true_eq, List.length_replicate, true_and]
  intro i hi
  have h1 := byte_getD hb i
  have h2 : (List.replicate ns.length (255 : Int)).getD i 0 = 255 := by simp [List.getD, hi]
  rw [h2]
  have := andNot255 ⟨(ns.getD i 0).toNat, by omega⟩
  simp only at this
  rwa [Int.toNat_of_nonneg h1.1] at this

/-- What programming leaves alone where no step is broken. -/
theorem progW_keep : ∀ (k : Nat) (s : FS) (p : Nat) (ws : List Int), s.left < 0 → (progW k s p ws).1.er = s.er ∧ (progW k s p ws).1.left = s.left ∧ (progW k s p ws).1.pick = s.pick ∧ (progW k s p ws).1.dark = s.dark ∧ (progW k s p ws).1.steps = s.steps + k
  | 0, s, _, _, _ => ⟨rfl, rfl, rfl, rfl, by show s.steps = s.steps + ((0 : Nat) : Int); omega⟩
  | k + 1, s, p, ws, hl => by
    have h0 : ¬ s.left = 0 := by omega
    have e : progW (k + 1) s p ws = progW k { s.stepped with b := splice s.b p (ws.take 8) } (p + 8) (ws.drop 8) := by show (if _ then _ else _) = _; rw [if_neg h0]
    have hs := stepped_free hl
    obtain ⟨h1, h2, h3, h4, h5⟩ := progW_keep k { s.stepped with b := splice s.b p (ws.take 8) } (p + 8) (ws.drop 8) (by show s.stepped.left < 0; rw [hs]; exact hl)
    rw [e, h1, h2, h3, h4, h5, hs]
    exact ⟨rfl, rfl, rfl, rfl, by show s.steps + 1 + (k : Int) = s.steps + ((k + 1 : Nat) : Int); omega⟩
theorem prog_keep (s : FS) (a : Int) (zs : List Int) (hl : s.left < 0) : (s.progF a zs).1.er = s.er ∧ (s.progF a zs).1.left = s.left ∧ (s.progF a zs).1.pick = s.pick ∧ (s.progF a zs).1.dark = s.dark ∧ s.steps ≤ (s.progF a zs).1.steps ∧ (s.progF a zs).1.steps ≤ s.steps + zs.length := by
  unfold FS.progF
  have self : s.er = s.er ∧ s.left = s.left ∧ s.pick = s.pick ∧ s.dark = s.dark ∧ s.steps ≤ s.steps ∧ s.steps ≤ s.steps + zs.length := ⟨rfl, rfl, rfl, rfl, by omega, by omega⟩
  split
  · exact self
  · split
    · exact self
    · split
      · exact self
      · split
        · exact self
        · obtain ⟨h1, h2, h3, h4, h5⟩ := progW_keep (zs.length / 8) s a.toNat zs hl
          exact ⟨h1, h2, h3, h4, by omega, by omega⟩

/-- Bytes beside a flash. -/
structure Lb (w : World) (L : FL) (A : Option Addr) (n cap : Nat) (zs : List Int) : Prop where
  bs : Bs w A n cap zs
  ap : ∀ b off, 0 < n → A = some ⟨b, off, none⟩ → ¬ L.O b
theorem Lb.apS {w : World} {L : FL} {A : Option Addr} {n cap : Nat} {zs : List Int} (h : Lb w L A n cap zs) : ∀ b off, 0 < n → A = some ⟨b, off, none⟩ → ¬ L.S b := fun b off h0 e hS => h.ap b off h0 e (.inl hS)
theorem Lb.turn {w w' : World} {B : Nat} {L L' : FL} {s' : FS} {A : Option Addr} {n cap : Nat} {zs : List Int} (h : Lb w L A n cap zs) (t : Turn w w' B L L' s') : Lb w' L' A n cap zs :=
  ⟨h.bs.keeps t.keeps (fun b off h0 _ e => h.ap b off h0 e), fun b off h0 e hO => by
    obtain ⟨b', off', e', hb, _⟩ := h.bs.at_ h0
    rw [e] at e'
    cases e'
    rcases t.o b hO with h1 | h1
    · exact h.ap b off h0 e h1
    · omega⟩
theorem Lb.later {w w' : World} {L : FL} {A : Option Addr} {n cap : Nat} {zs : List Int} (h : Lb w L A n cap zs) (hk : Keeps None w w') : Lb w' L A n cap zs := ⟨h.bs.keeps hk (fun _ _ _ _ _ h => h), h.ap⟩
theorem Lb.arg {W w : World} {B : Nat} {L : FL} {s : FS} {A : Option Addr} {n cap : Nat} {zs : List Int} (h : Bs W A n cap zs) (hk : Keeps None W w) (hF : FAt w B L s) (hB : W.heap.size ≤ B) : Lb w L A n cap zs :=
  ⟨h.keeps hk (fun _ _ _ _ _ h => h), fun b off h0 e hO => by
    obtain ⟨b', off', e', hb, _⟩ := h.at_ h0
    rw [e] at e'
    cases e'
    have := hF.low b hO
    omega⟩
theorem Lb.new {w w' : World} {B : Nat} {L : FL} {s : FS} {A : Option Addr} {n cap : Nat} {zs : List Int} (hF : FAt w B L s) (ho : Own w' w.heap.size (.slice A n cap) zs) : Lb w' L A n cap zs :=
  ⟨ownBs ho, fun b off h0 e hO => by
    have h1 := hF.lt b hO
    subst e
    exact ho.notBelow h1 rfl⟩
theorem Turn.next {W w w' : World} {B : Nat} {L L' : FL} {s s' : FS} (t : Turn w w' B L L' s') (h : FAt w B L s) (hk : Keeps None W w) (hB : W.heap.size ≤ B) : Keeps None W w' :=
  hk.trans t.keeps (fun _ h => h) (fun i hi e => by have := h.low i e; omega)
theorem litBs (w : World) (b : Nat) (hb : b = w.heap.size) (zs : List Int) (hz : ∀ z ∈ zs, 0 ≤ z ∧ z ≤ 255) (hl : zs.length ≤ 1000000) : Own (w.alloc (.cells (zs.map (Value.int .u8)).toArray 5)) w.heap.size (.slice (some ⟨b, 0, none⟩) zs.length zs.length) zs := by
  subst hb
  refine ⟨?_, hz⟩
  have := World.ownsRow_lit (base := w.heap.size) (e := 5) (size := 1) w (zs.map (Value.int .u8)).toArray zs.length (Nat.le_refl _) (by unfold maxLen; omega) (by simp)
  simpa using this
theorem madeBs (w : World) (N : Nat) (hN : N ≤ 1000000) : Own (w.alloc (.cells (Array.replicate N (Value.int .u8 0)) 5)) w.heap.size (.slice (some ⟨w.heap.size, 0, none⟩) N N) (List.replicate N 0) := by
  have := litBs w w.heap.size rfl (List.replicate N 0) (by intro z hz; rw [(List.mem_replicate.1 hz).2]; decide) (by rw [List.length_replicate]; omega)
  rw [List.length_replicate] at this
  have e : ((List.replicate N (0 : Int)).map (Value.int .u8)).toArray = Array.replicate N (Value.int .u8 0) := by simp
  rwa [e] at this
theorem bsNil (w : World) : Bs w none 0 0 [] := ownBs (Own.nil w 0)

/-- A flash in a law's walk: made behind W, its pointer ⟨q, 0⟩. -/
structure LF (W w : World) (B q : Nat) (L : FL) (s : FS) : Prop where
  at_ : FAt w B L s
  keeps : Keeps None W w
  le : W.heap.size ≤ B
  q : L.bf = q
theorem LF.later {W w w' : World} {B q : Nat} {L : FL} {s : FS} (h : LF W w B q L s) (hk : Keeps None w w') : LF W w' B q L s := ⟨h.at_.later hk, h.keeps.trans hk (fun _ h => h) (fun _ _ h => h), h.le, h.q⟩
theorem LF.alloc {W w : World} {B q : Nat} {L : FL} {s : FS} (h : LF W w B q L s) (o : Obj) : LF W (w.alloc o) B q L s := h.later ((Keeps.refl None w).alloc o)
theorem LF.drew {W w : World} {B q : Nat} {L : FL} {s : FS} (h : LF W w B q L s) : LF W w.drew B q L s := h.later (Keeps.refl None w).drew
theorem LF.drewN {W w : World} {B q : Nat} {L : FL} {s : FS} (h : LF W w B q L s) (n : Nat) : LF W (w.drewN n) B q L s := h.later ((Keeps.refl None w).drewN n)
theorem LF.turn {W w w' : World} {B q : Nat} {L L' : FL} {s s' : FS} (h : LF W w B q L s) (t : Turn w w' B L L' s') : LF W w' B q L' s' := ⟨t.at_, t.next h.at_ h.keeps h.le, h.le, t.bf.trans h.q⟩
def LTurn (W w : World) (B q : Nat) (L : FL) (r : FS × Int) (e : Ending) (w' : World) : Prop := e = .returned (.int .i64 r.2) ∧ ∃ L', LF W w' B q L' r.1 ∧ Turn w w' B L L' r.1
def LDone (W w : World) (B q : Nat) (L : FL) (s' : FS) (e : Ending) (w' : World) : Prop := e = .returned (.tuple #[]) ∧ ∃ L', LF W w' B q L' s' ∧ Turn w w' B L L' s'
section
variable {W w : World} {B q : Nat} {L : FL} {s : FS}
theorem lprogram (h : LF W w B q L s) {A : Option Addr} {m c : Nat} {zs : List Int} (hb : Lb w L A m c zs) (a : Int) (hst : 0 ≤ s.steps ∧ s.steps + m ≤ 1000000000000) : Calls Try.prog 81 #[.pointer (some ⟨q, 0, none⟩), .int .i64 a, .slice A m c] w (LTurn W w B q L (s.progF a zs)) := by
  have := fprogram_any B L s a A m c zs w h.at_ hb.bs hst hb.apS
  rw [FL.p, h.q] at this
  exact this.mono fun e w' ⟨h1, L', t⟩ => ⟨h1, L', h.turn t, t⟩
theorem lerase (h : LF W w B q L s) (k : Int) (hst : 0 ≤ s.steps ∧ s.steps ≤ 1000000000000) (her : ∀ i, 0 ≤ s.er.getD i 0 ∧ s.er.getD i 0 ≤ 1000000000000) : Calls Try.prog 96 #[.pointer (some ⟨q, 0, none⟩), .int .i64 k] w (LTurn W w B q L (s.eraseF k)) := by
  have := ferase_any B L s k w h.at_ hst her
  rw [FL.p, h.q] at this
  exact this.mono fun e w' ⟨h1, L', t⟩ => ⟨h1, L', h.turn t, t⟩
theorem larm (h : LF W w B q L s) {A : Option Addr} {m c : Nat} {ps : List Int} (hb : Bs w A m c ps) (hm : m ≤ 140737488355328) (after : Int) (hx : after ≤ 9223372036854775807) : Calls Try.prog 26 #[.pointer (some ⟨q, 0, none⟩), .int .i64 after, .slice A m c] w (LDone W w B q L (s.armF after ps)) := by
  have := farm_any B L s after A m c ps w h.at_ hx hb hm
  rw [FL.p, h.q] at this
  exact this.mono fun e w' ⟨h1, L', t⟩ => ⟨h1, L', h.turn t, t⟩
theorem lboot (h : LF W w B q L s) : Calls Try.prog 27 #[.pointer (some ⟨q, 0, none⟩)] w (LDone W w B q L s.bootF) := by
  have := fboot_any B L s w h.at_
  rw [FL.p, h.q] at this
  exact this.mono fun e w' ⟨h1, L', t⟩ => ⟨h1, L', h.turn t, t⟩
theorem lpeek (h : LF W w B q L s) (a m : Int) : Calls Try.prog 86 #[.pointer (some ⟨q, 0, none⟩), .int .i64 a, .int .i64 m] w (Cloned w (s.peekF a m)) := by
  have := fpeek_any B L s a m w h.at_
  rwa [FL.p, h.q] at this
theorem lread (h : LF W w B q L s) (a m : Int) : Calls Try.prog 74 #[.pointer (some ⟨q, 0, none⟩), .int .i64 a, .int .i64 m] w (ReadTold w (s.readF a m)) := by
  have := fread_any B L s a m w h.at_
  rwa [FL.p, h.q] at this
theorem lsize (h : LF W w B q L s) : Calls Try.prog 56 #[.pointer (some ⟨q, 0, none⟩)] w (Same (.int .i64 s.b.length) w) := by
  have := fsize_any B L s w h.at_
  rwa [FL.p, h.q, ← h.at_.bl] at this
theorem loff (h : LF W w B q L s) : Calls Try.prog 84 #[.pointer (some ⟨q, 0, none⟩)] w (Same (.bool s.dark) w) := by
  have := foff_any B L s w h.at_
  rwa [FL.p, h.q] at this
end
/-- A new one. -/
theorem lnew {W w : World} (hk : Keeps None W w) (n : Int) : Calls Try.prog 22 #[.int .i64 n] w fun e w' => ∃ q L, e = .returned (.pointer (some ⟨q, 0, none⟩)) ∧ LF W w' w.heap.size q L (newF n) :=
  (fnew_any n w).mono fun e w' ⟨L, h1, h2, _, h4⟩ => ⟨L.bf, L, h1, h2, hk.trans h4 (fun _ h => h) (fun _ _ h => h), hk.size, rfl⟩

end Go.Proofs.Ytfldgaiiniknpaa
