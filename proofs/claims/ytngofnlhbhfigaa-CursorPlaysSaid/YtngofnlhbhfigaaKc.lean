/- A cursor: what its calls do, the cursor in memory, and the walk of prepare. -/
import Derived.Test.YtngofnlhbhfigaaRgLaw
namespace Go.Proofs.Ytngofnlhbhfigaa
open Go.RowKit

/-- A cursor: where it stands, how many bytes are held, the word of them, the first sector that was not made ready, the error. -/
structure KS where
  at_ : Nat
  n : Nat
  word : List Int
  ready : Nat
  err : Int
/-- Room for so many steps more. -/
structure Room (s : FS) (m : Nat) : Prop where
  st : 0 ≤ s.steps ∧ s.steps + m ≤ 1000000000000
  er : ∀ i, 0 ≤ s.er.getD i 0 ∧ s.er.getD i 0 + m ≤ 1000000000000
theorem Room.less {s : FS} {m k : Nat} (h : Room s m) (hk : k ≤ m) : Room s k :=
  ⟨by have := h.st; omega, fun i => by have := h.er i; omega⟩
theorem progW_more : ∀ (k : Nat) (s : FS) (p : Nat) (ws : List Int), (progW k s p ws).1.er = s.er ∧ s.steps ≤ (progW k s p ws).1.steps ∧ (progW k s p ws).1.steps ≤ s.steps + k
  | 0, s, p, ws => ⟨rfl, Int.le_refl _, by show s.steps ≤ s.steps + ((0 : Nat) : Int); omega⟩
  | k + 1, s, p, ws => by
    unfold progW
    split
    · exact ⟨s.stepped_er, by show s.steps ≤ s.stepped.steps; rw [s.stepped_steps]; omega, by show s.stepped.steps ≤ _; rw [s.stepped_steps]; omega⟩
    · have := progW_more k { s.stepped with b := splice s.b p (ws.take 8) } (p + 8) (ws.drop 8)
      have h1 : ({ s.stepped with b := splice s.b p (ws.take 8) } : FS).er = s.er := s.stepped_er
      have h2 : ({ s.stepped with b := splice s.b p (ws.take 8) } : FS).steps = s.steps + 1 := s.stepped_steps
      rw [h1, h2] at this
      exact ⟨this.1, by omega, by omega⟩
theorem prog_more (s : FS) (a : Int) (zs : List Int) : (s.progF a zs).1.er = s.er ∧ s.steps ≤ (s.progF a zs).1.steps ∧ (s.progF a zs).1.steps ≤ s.steps + zs.length := by
  unfold FS.progF
  split
  · exact ⟨rfl, by dsimp only; omega, by dsimp only; omega⟩
  · split
    · exact ⟨rfl, by dsimp only; omega, by dsimp only; omega⟩
    · split
      · exact ⟨rfl, by dsimp only; omega, by dsimp only; omega⟩
      · split
        · exact ⟨rfl, by dsimp only; omega, by dsimp only; omega⟩
        · have := progW_more (zs.length / 8) s a.toNat zs
          exact ⟨this.1, this.2.1, by omega⟩
theorem gprog_more (s : FS) (f c : Nat) (a : Int) (zs : List Int) : (s.gprog f c a zs).1.er = s.er ∧ s.steps ≤ (s.gprog f c a zs).1.steps ∧ (s.gprog f c a zs).1.steps ≤ s.steps + zs.length := by
  unfold FS.gprog
  split
  · exact ⟨rfl, by dsimp only; omega, by dsimp only; omega⟩
  · split
    · exact prog_more s _ zs
    · exact ⟨rfl, by dsimp only; omega, by dsimp only; omega⟩
theorem set_more (l : List Int) (k i : Nat) : l.getD i 0 ≤ (l.set k (l.getD k 0 + 1)).getD i 0 ∧ (l.set k (l.getD k 0 + 1)).getD i 0 ≤ l.getD i 0 + 1 := by
  by_cases e : i = k
  · subst e
    by_cases hl : i < l.length
    · rw [getD_set_self _ _ _ hl]; omega
    · rw [List.set_eq_of_length_le (by omega)]; omega
  · have : (l.set k (l.getD k 0 + 1)).getD i 0 = l.getD i 0 := by simp [List.getD, List.getElem?_set, show ¬ k = i from fun x => e x.symm]
    rw [this]; omega
theorem erase_more (s : FS) (k : Int) : (s.eraseF k).1.er.length = s.er.length ∧ (s.steps ≤ (s.eraseF k).1.steps ∧ (s.eraseF k).1.steps ≤ s.steps + 1) ∧ ∀ i, s.er.getD i 0 ≤ (s.eraseF k).1.er.getD i 0 ∧ (s.eraseF k).1.er.getD i 0 ≤ s.er.getD i 0 + 1 := by
  have h0 : s.er.length = s.er.length ∧ (s.steps ≤ s.steps ∧ s.steps ≤ s.steps + 1) ∧ ∀ i, s.er.getD i 0 ≤ s.er.getD i 0 ∧ s.er.getD i 0 ≤ s.er.getD i 0 + 1 := ⟨rfl, ⟨by omega, by omega⟩, fun i => ⟨by omega, by omega⟩⟩
  have h1 : ∀ b : List Int, ({ (s.erased k.toNat).stepped with b := b } : FS).er.length = s.er.length ∧ (s.steps ≤ ({ (s.erased k.toNat).stepped with b := b } : FS).steps ∧ ({ (s.erased k.toNat).stepped with b := b } : FS).steps ≤ s.steps + 1) ∧ ∀ i, s.er.getD i 0 ≤ ({ (s.erased k.toNat).stepped with b := b } : FS).er.getD i 0 ∧ ({ (s.erased k.toNat).stepped with b := b } : FS).er.getD i 0 ≤ s.er.getD i 0 + 1 := fun b => by
    have e1 : (s.erased k.toNat).stepped.er = s.er.set k.toNat (s.er.getD k.toNat 0 + 1) := (s.erased k.toNat).stepped_er
    have e2 : (s.erased k.toNat).stepped.steps = s.steps + 1 := (s.erased k.toNat).stepped_steps
    show (s.erased k.toNat).stepped.er.length = s.er.length ∧ (s.steps ≤ (s.erased k.toNat).stepped.steps ∧ (s.erased k.toNat).stepped.steps ≤ s.steps + 1) ∧ ∀ i, s.er.getD i 0 ≤ (s.erased k.toNat).stepped.er.getD i 0 ∧ (s.erased k.toNat).stepped.er.getD i 0 ≤ s.er.getD i 0 + 1
    rw [e1, e2]
    exact ⟨List.length_set, ⟨by omega, by omega⟩, fun i => set_more _ _ _⟩
  unfold FS.eraseF
  split
  · exact h0
  · split
    · exact h0
    · split
      · exact h1 _
      · exact h1 _
theorem Room.prog {s : FS} {m : Nat} {zs : List Int} (h : Room s (m + zs.length)) (f c : Nat) (a : Int) : Room (s.gprog f c a zs).1 m := by
  have := gprog_more s f c a zs
  have h1 := h.st
  exact ⟨by omega, fun i => by rw [this.1]; have := h.er i; omega⟩
theorem Room.erase {s : FS} {m : Nat} (h : Room s (m + 1)) (f c : Nat) (k : Int) : Room (s.gerase f c k).1 m := by
  unfold FS.gerase
  split
  · exact h.less (by omega)
  · split
    · exact h.less (by omega)
    · have := erase_more s (f + k)
      have h1 := h.st
      exact ⟨by omega, fun i => by have h2 := h.er i; have h3 := this.2.2 i; omega⟩

/-- Sectors made ready, from r on, as far as the next one behind this. -/
def prepF (f c sector : Nat) : Nat → FS → Nat → FS × Nat × Int
  | 0, s, r => (s, r, 0)
  | m + 1, s, r =>
    if r ≤ sector + 1 then
      if (s.gblank f c r).2 ≠ 0 then (s, r, (s.gblank f c r).2)
      else if (s.gblank f c r).1 = true then prepF f c sector m s (r + 1)
      else if (s.gerase f c r).2 ≠ 0 then ((s.gerase f c r).1, r, (s.gerase f c r).2)
      else prepF f c sector m (s.gerase f c r).1 (r + 1)
    else (s, r, 0)
def prepK (f c sector : Nat) (s : FS) (k : KS) : FS × KS × Int :=
  ((prepF f c sector (c - k.ready) s k.ready).1, { k with ready := (prepF f c sector (c - k.ready) s k.ready).2.1 }, (prepF f c sector (c - k.ready) s k.ready).2.2)
theorem prepF_stop {f c sector : Nat} {s : FS} {r : Nat} (h : ¬ (r < c ∧ r ≤ sector + 1)) : prepF f c sector (c - r) s r = (s, r, 0) := by
  by_cases hr : r < c
  · obtain ⟨j, hj⟩ : ∃ j, c - r = j + 1 := ⟨c - r - 1, by omega⟩
    rw [hj]; unfold prepF; rw [if_neg (by omega)]
  · rw [show c - r = 0 by omega]; rfl
theorem prepF_go {f c sector : Nat} {s : FS} {r : Nat} (h : r < c ∧ r ≤ sector + 1) : prepF f c sector (c - r) s r =
    if (s.gblank f c r).2 ≠ 0 then (s, r, (s.gblank f c r).2)
    else if (s.gblank f c r).1 = true then prepF f c sector (c - (r + 1)) s (r + 1)
    else if (s.gerase f c r).2 ≠ 0 then ((s.gerase f c r).1, r, (s.gerase f c r).2)
    else prepF f c sector (c - (r + 1)) (s.gerase f c r).1 (r + 1) := by
  obtain ⟨j, hj⟩ : ∃ j, c - r = j + 1 := ⟨c - r - 1, by omega⟩
  rw [hj, show c - (r + 1) = j by omega]
  conv => lhs; unfold prepF
  rw [if_pos h.2]
/-- The word that is programmed. -/
def KS.full (k : KS) : List Int := splice (blankN 8) 0 (k.word.take k.n)
def progK (f c : Nat) (s : FS) (k : KS) : FS × KS × Int :=
  let p := prepK f c ((k.at_ - k.n) / 1024) s k
  if p.2.2 ≠ 0 then (p.1, { p.2.1 with err := p.2.2 }, p.2.2)
  else ((p.1.gprog f c (k.at_ - k.n : Nat) k.full).1, { p.2.1 with err := (p.1.gprog f c (k.at_ - k.n : Nat) k.full).2 }, (p.1.gprog f c (k.at_ - k.n : Nat) k.full).2)
def KS.got (k : KS) (z : Int) : KS := { k with word := k.word.set k.n z, n := k.n + 1, at_ := k.at_ + 1 }
def putK (f c : Nat) (s : FS) (k : KS) (z : Int) : FS × KS × Int :=
  if k.n + 1 < 8 then (s, k.got z, 0)
  else if (progK f c s (k.got z)).2.2 = 0 then ((progK f c s (k.got z)).1, { (progK f c s (k.got z)).2.1 with n := 0 }, 0) else progK f c s (k.got z)
def rowK (f c : Nat) : List Int → FS → KS → FS × KS × Int
  | [], s, k => (s, k, 0)
  | z :: zs, s, k => if (putK f c s k z).2.2 ≠ 0 then putK f c s k z else rowK f c zs (putK f c s k z).1 (putK f c s k z).2.1
def writeK (f c : Nat) (s : FS) (k : KS) (zs : List Int) : FS × KS × Int :=
  if k.err ≠ 0 then (s, k, k.err) else if 1024 * c - k.at_ < zs.length then (s, k, 2) else rowK f c zs s k
def flushK (f c : Nat) (s : FS) (k : KS) : FS × KS × Int :=
  if k.err ≠ 0 ∨ k.n = 0 then (s, k, k.err) else progK f c s k

/-- The cells of a cursor. -/
def kcells (q f c : Nat) (k : KS) : List Value :=
  [.pointer (some ⟨q, 0, none⟩), .int .i64 f, .int .i64 c, .int .i64 k.at_, .int .i64 k.n] ++ (k.word.map (Value.int .u8) ++ [.int .i64 k.ready, .int .i64 k.err])
theorem list8 {α : Type} {l : List α} (h : l.length = 8) : ∃ a b c d e f g i, l = [a, b, c, d, e, f, g, i] := by
  match l, h with
  | [a, b, c, d, e, f, g, i], _ => exact ⟨a, b, c, d, e, f, g, i, rfl⟩
section
variable {q f c : Nat} {k : KS} (h : k.word.length = 8)
include h
theorem kcells_ready : (kcells q f c k)[13]? = some (.int .i64 k.ready) := by
  obtain ⟨a, n, wd, r, e⟩ := k; obtain ⟨x0, x1, x2, x3, x4, x5, x6, x7, rfl⟩ := list8 h; rfl
theorem kcells_err : (kcells q f c k)[14]? = some (.int .i64 k.err) := by
  obtain ⟨a, n, wd, r, e⟩ := k; obtain ⟨x0, x1, x2, x3, x4, x5, x6, x7, rfl⟩ := list8 h; rfl
theorem kset_ready (r : Nat) : (kcells q f c k).set 13 (.int .i64 r) = kcells q f c { k with ready := r } := by
  obtain ⟨a, n, wd, r, e⟩ := k; obtain ⟨x0, x1, x2, x3, x4, x5, x6, x7, rfl⟩ := list8 h; rfl
theorem kset_err (e : Int) : (kcells q f c k).set 14 (.int .i64 e) = kcells q f c { k with err := e } := by
  obtain ⟨a, n, wd, r, e⟩ := k; obtain ⟨x0, x1, x2, x3, x4, x5, x6, x7, rfl⟩ := list8 h; rfl
theorem kcells_word {i : Nat} (hi : i < 8) : (kcells q f c k)[5 + i]? = some (.int .u8 (k.word.getD i 0)) := by
  show ([_, _, _, _, _] ++ (k.word.map (Value.int .u8) ++ _))[5 + i]? = _
  rw [List.getElem?_append_right (by simp), List.getElem?_append_left (by simp; omega)]
  have : 5 + i - [Value.pointer (some ⟨q, 0, none⟩), .int .i64 f, .int .i64 c, .int .i64 k.at_, .int .i64 k.n].length = i := by simp
  rw [this]
  exact map_getD 0 (by omega)
theorem kset_word {i : Nat} (hi : i < 8) (z : Int) : (kcells q f c k).set (5 + i) (.int .u8 z) = kcells q f c { k with word := k.word.set i z } := by
  show ([_, _, _, _, _] ++ (k.word.map (Value.int .u8) ++ _)).set (5 + i) _ = [_, _, _, _, _] ++ ((k.word.set i z).map (Value.int .u8) ++ _)
  rw [List.set_append_right _ _ (by simp), List.map_set]
  have : 5 + i - [Value.pointer (some ⟨q, 0, none⟩), .int .i64 f, .int .i64 c, .int .i64 k.at_, .int .i64 k.n].length = i := by simp
  rw [this, List.set_append_left _ _ (by simp; omega)]
end
theorem kset_at {q f c : Nat} {k : KS} (a : Nat) : (kcells q f c k).set 3 (.int .i64 a) = kcells q f c { k with at_ := a } := rfl
theorem kset_n {q f c : Nat} {k : KS} (n : Nat) : (kcells q f c k).set 4 (.int .i64 n) = kcells q f c { k with n := n } := rfl

/-- A cursor and its flash in memory. -/
structure KAt (w : World) (B : Nat) (L : FL) (s : FS) (cb q f c : Nat) (k : KS) : Prop where
  fl : FAt w B L s
  hq : L.bf = q
  cell : Blk w cb (kcells q f c k) 114
  no : ¬ L.O cb
  lo : B ≤ cb
  len : k.word.length = 8
  by_ : ∀ z ∈ k.word, 0 ≤ z ∧ z ≤ 255
  n8 : k.n ≤ 8
  na : k.n ≤ k.at_
  al : k.at_ ≤ 1024 * c
  rc : k.ready ≤ c
  fc : f + c ≤ L.n
section
variable {w w' : World} {B : Nat} {L L' : FL} {s s' : FS} {cb q f c : Nat} {k k' : KS}
theorem KAt.later (h : KAt w B L s cb q f c k) (hk : Keeps None w w') : KAt w' B L s cb q f c k :=
  ⟨h.fl.later hk, h.hq, hk.blk h.cell (fun h => h), h.no, h.lo, h.len, h.by_, h.n8, h.na, h.al, h.rc, h.fc⟩
theorem KAt.drew (h : KAt w B L s cb q f c k) : KAt w.drew B L s cb q f c k := h.later (Keeps.refl None w).drew
theorem KAt.alloc (h : KAt w B L s cb q f c k) (o : Obj) : KAt (w.alloc o) B L s cb q f c k := h.later ((Keeps.refl None w).alloc o)
/-- The flash turns. -/
theorem KAt.turn (h : KAt w B L s cb q f c k) (t : Turn w w' B L L' s') : KAt w' B L' s' cb q f c k :=
  ⟨t.at_, t.bf.trans h.hq, t.keeps.blk h.cell h.no, fun hO => (t.o cb hO).elim h.no (fun hc => by have := h.cell.lt; omega), h.lo, h.len, h.by_, h.n8, h.na, h.al, h.rc, by rw [t.n]; exact h.fc⟩
/-- A cell of the cursor changes. -/
theorem KAt.put (h : KAt w B L s cb q f c k) {i : Nat} {v : Value} (hs : (kcells q f c k).set i v = kcells q f c k') (h1 : k'.word.length = 8) (h2 : ∀ z ∈ k'.word, 0 ≤ z ∧ z ≤ 255) (h3 : k'.n ≤ 8) (h4 : k'.n ≤ k'.at_) (h5 : k'.at_ ≤ 1024 * c) (h6 : k'.ready ≤ c) :
    KAt (w.setCell ⟨cb, i, none⟩ v) B L s cb q f c k' :=
  ⟨h.fl.keeps ((Keeps.self cb w).put i v) (fun j hj e => h.no (e ▸ hj)), h.hq, hs ▸ h.cell.set i v, h.no, h.lo, h1, h2, h3, h4, h5, h6, h.fc⟩
theorem KAt.putReady (h : KAt w B L s cb q f c k) (r : Nat) (hr : r ≤ c) : KAt (w.setCell ⟨cb, 13, none⟩ (.int .i64 r)) B L s cb q f c { k with ready := r } :=
  h.put (kset_ready h.len r) h.len h.by_ h.n8 h.na h.al hr
theorem KAt.putErr (h : KAt w B L s cb q f c k) (e : Int) : KAt (w.setCell ⟨cb, 14, none⟩ (.int .i64 e)) B L s cb q f c { k with err := e } :=
  h.put (kset_err h.len e) h.len h.by_ h.n8 h.na h.al h.rc
end
/-- What a call of a cursor leaves. -/
structure KLink (w w' : World) (L L' : FL) (cb : Nat) : Prop where
  keeps : Keeps (fun j => L.O j ∨ j = cb) w w'
  o : ∀ j, L'.O j → L.O j ∨ w.heap.size ≤ j
theorem KLink.self (w : World) (L : FL) (cb : Nat) : KLink w w L L cb := ⟨Keeps.refl _ _, fun _ h => .inl h⟩
theorem KLink.trans {a b d : World} {L L' M : FL} {cb : Nat} (h : KLink a b L L' cb) (k : KLink b d L' M cb) : KLink a d L M cb :=
  ⟨h.keeps.trans k.keeps (fun _ h => h) (fun i hi hj => hj.elim (fun hj => (h.o i hj).elim .inl (fun hc => absurd hi (Nat.not_lt.2 hc))) .inr), fun j hj => (k.o j hj).elim (h.o j) (fun hc => .inr (Nat.le_trans h.keeps.size hc))⟩
theorem KLink.quiet {a b : World} (L : FL) (cb : Nat) (h : Keeps None a b) : KLink a b L L cb := ⟨h.mono (fun _ _ h => h.elim), fun _ h => .inl h⟩
theorem KLink.turn {a b : World} {B : Nat} {L L' : FL} {s : FS} (cb : Nat) (t : Turn a b B L L' s) : KLink a b L L' cb := ⟨t.keeps.mono (fun _ _ h => .inl h), t.o⟩
theorem KLink.put (a : World) (L : FL) (cb i : Nat) (v : Value) : KLink a (a.setCell ⟨cb, i, none⟩ v) L L cb := ⟨((Keeps.self cb a).put i v).mono (fun _ _ h => .inr h), fun _ h => .inl h⟩
def KTurn (w : World) (B : Nat) (L : FL) (cb q f c : Nat) (p : FS × KS × Int) (e : Ending) (w' : World) : Prop :=
  e = .returned (.int .i64 p.2.2) ∧ ∃ L', KAt w' B L' p.1 cb q f c p.2.1 ∧ KLink w w' L L' cb

set_option maxRecDepth 100000 in
set_option maxHeartbeats 1600000 in
theorem kprep_any (B : Nat) (L : FL) (s : FS) (cb q f c : Nat) (k : KS) (sector : Nat) (w : World) (h : KAt w B L s cb q f c k) (hs : sector ≤ 1000000) (hr : Room s (c - k.ready)) :
    Calls Try.prog 103 #[.pointer (some ⟨cb, 0, none⟩), .int .i64 sector] w (KTurn w B L cb q f c (prepK f c sector s k)) := by
  have hc9 : c ≤ 256 := by have := h.fc; have := h.fl.n9; omega
  obtain ⟨sz, hsz⟩ : ∃ x, 1024 * c = x := ⟨_, rfl⟩
  have GS := Lib.hid (fun w => gsize_any (some ⟨q, 0, none⟩) f c (by omega) w)
  rw [hsz] at GS
  have i2 : ((sz : Int) / 1024) = c := by omega
  have sz9 : sz ≤ 262144 := by omega
  clear hsz
  have H0 := Lib.hid h
  have R0 := Lib.hid hr
  clear h hr
  go_enter Try.func103, Try.ntmps103
  go_wp2
  go_loopw [5] (fun _ wr => ∃ (r : Nat) (s' : FS) (L' : FL), r ≤ c ∧ KAt wr B L' s' cb q f c { k with ready := r } ∧ Room s' (c - r) ∧ prepF f c sector (c - k.ready) s k.ready = prepF f c sector (c - r) s' r ∧ KLink w wr L L' cb) (fun _ wr => c - (intOf ((wr.cell? ⟨cb, 13, none⟩).getD (.int .i64 0))).toNat)
  case atStart => exact ⟨k.ready, s, L, H0.out.rc, H0.out, R0.out, rfl, KLink.self w L cb⟩
  case round =>
    obtain ⟨r, s1, L1, hrc, h, hr, hp, hk⟩ := hrel
    have H := Lib.hid h
    have HR := Lib.hid hr
    have HP := Lib.hid hp
    have HK := Lib.hid hk
    clear h hr hp hk H0 R0
    have c0 := H.out.cell.cellD 0 _ rfl
    have c1 := H.out.cell.cellD 1 _ rfl
    have c2 := H.out.cell.cellD 2 _ rfl
    have c13 := H.out.cell.cellD 13 _ (kcells_ready H.out.len)
    simp only [] at c13
    obtain ⟨lim, hlim⟩ : ∃ x : Int, (if (c : Int) - 1 < (sector : Int) + 1 then (c : Int) - 1 else (sector : Int) + 1) = x := ⟨_, rfl⟩
    have hlm : (lim = (c : Int) - 1 ∧ (c : Int) - 1 < (sector : Int) + 1) ∨ (lim = (sector : Int) + 1 ∧ ¬ (c : Int) - 1 < (sector : Int) + 1) := by rw [← hlim]; split <;> omega
    by_cases g : r < c ∧ r ≤ sector + 1
    · have dm : decide ((r : Int) ≤ lim) = true := decide_eq_true (by omega)
      have hgo := prepF_go (f := f) (s := s1) g
      have hr1 : Room (s1.gerase f c r).1 (c - (r + 1)) := Room.erase (HR.out.less (by omega)) f c r
      have GB := Lib.hid (fun w' (h' : KAt w' B L1 s1 cb q f c { k with ready := r }) => gisblank_any B L1 s1 q f c r w' h'.fl h'.hq h'.fc)
      have hrs := HR.out.st
      have hre := HR.out.er
      have GE := Lib.hid (fun w' (h' : KAt w' B L1 s1 cb q f c { k with ready := r }) => gerase_any B L1 s1 q f c r w' h'.fl h'.hq (by have := h'.fc; have := h'.fl.n9; omega) (by omega) (fun i => by have := hre i; omega))
      rw [hgo] at HP
      have HR1 := Lib.hid hr1
      obtain ⟨r1, hr1⟩ : ∃ x, r + 1 = x := ⟨_, rfl⟩
      have ir : IntKind.i64.wrap ((r : Int) + 1) = r1 := by rw [show (r : Int) + 1 = (r1 : Int) by omega]; exact wrap_nat _ (by omega)
      rw [hr1] at HP HR1
      have hr1c : r1 ≤ c := by omega
      have hrr : c - r1 < c - r := by omega
      generalize s1.gblank f c r = gb at *
      generalize s1.gerase f c r = ge at *
      obtain ⟨bl, be⟩ := gb
      obtain ⟨s2, ee⟩ := ge
      simp only [] at HP GB GE HR1
      clear hgo hrs hre hr1
      go_wp2
      obtain ⟨mS, mh⟩ : ∃ S : World → Prop, ∀ w', S w' ↔ (w'.cell? ⟨cb, 0, none⟩ = some (.pointer (some ⟨q, 0, none⟩)) ∧ w'.cell? ⟨cb, 1, none⟩ = some (.int .i64 f) ∧ w'.cell? ⟨cb, 2, none⟩ = some (.int .i64 c) ∧ w'.cell? ⟨cb, 13, none⟩ = some (.int .i64 r)) := ⟨_, fun _ => Iff.rfl⟩
      have mk0 : ∀ x : Memb mS, x.at_.cell? ⟨cb, 0, none⟩ = some (.pointer (some ⟨q, 0, none⟩)) := fun x => ((mh _).1 x.is).1
      have mk1 : ∀ x : Memb mS, x.at_.cell? ⟨cb, 1, none⟩ = some (.int .i64 f) := fun x => ((mh _).1 x.is).2.1
      have mk2 : ∀ x : Memb mS, x.at_.cell? ⟨cb, 2, none⟩ = some (.int .i64 c) := fun x => ((mh _).1 x.is).2.2.1
      have mk3 : ∀ x : Memb mS, x.at_.cell? ⟨cb, 13, none⟩ = some (.int .i64 r) := fun x => ((mh _).1 x.is).2.2.2
      have mn : Nonempty (Memb mS) := ⟨⟨(wr).drew, (mh _).2 ⟨c0, c1, c2, c13⟩⟩⟩
      have mH := Lib.hid mh
      clear mh
      refine wp_region_mix [10] (InS mS) (by kernel_rfl) (by kernel_rfl) (InS.mk ((mH.out _).2 ⟨c0, c1, c2, c13⟩)) ?_
      refine wpMix_seg 10 (by kernel_rfl) (by decide) ?_
      simp only [List.take_succ_cons, List.take_zero, List.drop_succ_cons, List.drop_zero]
      repeat (go_big_quiet_step (fail))
      refine wpQuiet_nil ?_
      refine wpMix_eff (by kernel_rfl) ?_
      go_wp2_with fail
      refine (GS.out _).mono ?_
      rintro e w7 ⟨rfl, k7⟩
      have K7 := Lib.hid (((Keeps.refl None wr).drew).trans k7 (T := None) (fun _ h => h) (fun _ _ h => h))
      have H7 := Lib.hid (H.out.later K7.out)
      clear k7
      go_wp2
      refine MixK.on (InS.mk ((mH.out _).2 (⟨H7.out.cell.cellD 0 _ rfl, H7.out.cell.cellD 1 _ rfl, H7.out.cell.cellD 2 _ rfl, H7.out.cell.cellD 13 _ (kcells_ready H7.out.len)⟩))) ?_
      refine wpMix_seg 4 (by kernel_rfl) (by decide) ?_
      simp only [List.take_succ_cons, List.take_zero, List.drop_succ_cons, List.drop_zero]
      repeat (go_big_quiet_step (fail))
      refine wpQuiet_nil ?_
      refine wpMix_nil ?_
      clear mk0 mk1 mk2 mk3 mn mH
      -- the limit is named
      clear hlim hlm
      have L7K := Lib.hid (HK.out.trans (KLink.quiet L1 cb K7.out))
      have x0 := H7.out.cell.cellD 0 _ rfl
      have x1 := H7.out.cell.cellD 1 _ rfl
      have x2 := H7.out.cell.cellD 2 _ rfl
      have x13 := H7.out.cell.cellD 13 _ (kcells_ready H7.out.len)
      simp only [] at x13
      go_wp2
      obtain ⟨mS, mh⟩ : ∃ S : World → Prop, ∀ w', S w' ↔ (w'.cell? ⟨cb, 0, none⟩ = some (.pointer (some ⟨q, 0, none⟩)) ∧ w'.cell? ⟨cb, 1, none⟩ = some (.int .i64 f) ∧ w'.cell? ⟨cb, 2, none⟩ = some (.int .i64 c) ∧ w'.cell? ⟨cb, 13, none⟩ = some (.int .i64 r)) := ⟨_, fun _ => Iff.rfl⟩
      have mk0 : ∀ x : Memb mS, x.at_.cell? ⟨cb, 0, none⟩ = some (.pointer (some ⟨q, 0, none⟩)) := fun x => ((mh _).1 x.is).1
      have mk1 : ∀ x : Memb mS, x.at_.cell? ⟨cb, 1, none⟩ = some (.int .i64 f) := fun x => ((mh _).1 x.is).2.1
      have mk2 : ∀ x : Memb mS, x.at_.cell? ⟨cb, 2, none⟩ = some (.int .i64 c) := fun x => ((mh _).1 x.is).2.2.1
      have mk3 : ∀ x : Memb mS, x.at_.cell? ⟨cb, 13, none⟩ = some (.int .i64 r) := fun x => ((mh _).1 x.is).2.2.2
      have mn : Nonempty (Memb mS) := ⟨⟨(w7).drew, (mh _).2 ⟨x0, x1, x2, x13⟩⟩⟩
      have mH := Lib.hid mh
      clear mh
      refine wp_region_mix [8] (InS mS) (by kernel_rfl) (by kernel_rfl) (InS.mk ((mH.out _).2 ⟨x0, x1, x2, x13⟩)) ?_
      refine wpMix_seg 8 (by kernel_rfl) (by decide) ?_
      simp only [List.take_succ_cons, List.take_zero, List.drop_succ_cons, List.drop_zero]
      repeat (go_big_quiet_step (fail))
      refine wpQuiet_nil ?_
      refine wpMix_eff (by kernel_rfl) ?_
      go_wp2_with fail
      refine (GB.out _ H7.out.drew).mono ?_
      rintro e w8 ⟨rfl, k8⟩
      have K8 := Lib.hid (((Keeps.refl None w7).drew).trans k8 (T := None) (fun _ h => h) (fun _ _ h => h))
      have H8 := Lib.hid (H7.out.later K8.out)
      go_wp2
      refine MixK.on (InS.mk ((mH.out _).2 (⟨H8.out.cell.cellD 0 _ rfl, H8.out.cell.cellD 1 _ rfl, H8.out.cell.cellD 2 _ rfl, H8.out.cell.cellD 13 _ (kcells_ready H8.out.len)⟩))) ?_
      refine wpMix_seg 5 (by kernel_rfl) (by decide) ?_
      simp only [List.take_succ_cons, List.take_zero, List.drop_succ_cons, List.drop_zero]
      repeat (go_big_quiet_step (fail))
      refine wpQuiet_nil ?_
      refine wpMix_nil ?_
      clear mk0 mk1 mk2 mk3 mn mH
      have L8K := Lib.hid (L7K.out.trans (KLink.quiet L1 cb K8.out))
      clear H7 L7K x0 x1 x2 x13
      have x0 := H8.out.cell.cellD 0 _ rfl
      have x1 := H8.out.cell.cellD 1 _ rfl
      have x2 := H8.out.cell.cellD 2 _ rfl
      have x13 := H8.out.cell.cellD 13 _ (kcells_ready H8.out.len)
      have z13 := H8.out.cell.frozen 13
      simp only [] at x13
      by_cases q1 : be = 0
      · subst q1
        rw [if_neg (by simp)] at HP
        cases bl with
        | true =>
          rw [if_pos rfl] at HP
          go_wp2
          go_roundw
          case rel => exact ⟨r1, s1, L1, hr1c, H8.out.putReady r1 hr1c, HR.out.less (by omega), HP.out, L8K.out.trans (KLink.put _ L1 cb 13 _)⟩
          case measure =>
            have y13 := (H8.out.putReady r1 hr1c).cell.cellD 13 _ (kcells_ready H8.out.len)
            simp only [] at y13
            rw [y13, c13]
            exact hrr
        | false =>
          rw [if_neg (by simp)] at HP
          go_wp2
          obtain ⟨mS, mh⟩ : ∃ S : World → Prop, ∀ w', S w' ↔ (w'.cell? ⟨cb, 0, none⟩ = some (.pointer (some ⟨q, 0, none⟩)) ∧ w'.cell? ⟨cb, 1, none⟩ = some (.int .i64 f) ∧ w'.cell? ⟨cb, 2, none⟩ = some (.int .i64 c) ∧ w'.cell? ⟨cb, 13, none⟩ = some (.int .i64 r)) := ⟨_, fun _ => Iff.rfl⟩
          have mk0 : ∀ x : Memb mS, x.at_.cell? ⟨cb, 0, none⟩ = some (.pointer (some ⟨q, 0, none⟩)) := fun x => ((mh _).1 x.is).1
          have mk1 : ∀ x : Memb mS, x.at_.cell? ⟨cb, 1, none⟩ = some (.int .i64 f) := fun x => ((mh _).1 x.is).2.1
          have mk2 : ∀ x : Memb mS, x.at_.cell? ⟨cb, 2, none⟩ = some (.int .i64 c) := fun x => ((mh _).1 x.is).2.2.1
          have mk3 : ∀ x : Memb mS, x.at_.cell? ⟨cb, 13, none⟩ = some (.int .i64 r) := fun x => ((mh _).1 x.is).2.2.2
          have mn : Nonempty (Memb mS) := ⟨⟨(w8).drew, (mh _).2 ⟨x0, x1, x2, x13⟩⟩⟩
          have mH := Lib.hid mh
          clear mh
          refine wp_region_mix [8] (InS mS) (by kernel_rfl) (by kernel_rfl) (InS.mk ((mH.out _).2 ⟨x0, x1, x2, x13⟩)) ?_
          refine wpMix_seg 8 (by kernel_rfl) (by decide) ?_
          simp only [List.take_succ_cons, List.take_zero, List.drop_succ_cons, List.drop_zero]
          repeat (go_big_quiet_step (fail))
          refine wpQuiet_nil ?_
          refine wpMix_eff (by kernel_rfl) ?_
          go_wp2_with fail
          refine (GE.out _ H8.out.drew).mono ?_
          rintro e w9 ⟨rfl, L9, t9⟩
          have H9 := Lib.hid (H8.out.drew.turn t9)
          have L9K := Lib.hid ((L8K.out.trans (KLink.quiet L1 cb (Keeps.refl None w8).drew)).trans (KLink.turn cb t9))
          go_wp2
          refine MixK.on (InS.mk ((mH.out _).2 (⟨H9.out.cell.cellD 0 _ rfl, H9.out.cell.cellD 1 _ rfl, H9.out.cell.cellD 2 _ rfl, H9.out.cell.cellD 13 _ (kcells_ready H9.out.len)⟩))) ?_
          refine wpMix_seg 1 (by kernel_rfl) (by decide) ?_
          simp only [List.take_succ_cons, List.take_zero, List.drop_succ_cons, List.drop_zero]
          repeat (go_big_quiet_step (fail))
          refine wpQuiet_nil ?_
          refine wpMix_nil ?_
          clear mk0 mk1 mk2 mk3 mn mH
          clear x0 x1 x2 x13 z13
          have x13 := H9.out.cell.cellD 13 _ (kcells_ready H9.out.len)
          have z13 := H9.out.cell.frozen 13
          simp only [] at x13
          by_cases q2 : ee = 0
          · subst q2
            rw [if_neg (by simp)] at HP
            have e2 : decide ((0 : Int) = 0) = true := rfl
            go_wp2
            go_roundw
            case rel => exact ⟨r1, s2, L9, hr1c, H9.out.putReady r1 hr1c, HR1.out, HP.out, L9K.out.trans (KLink.put _ L9 cb 13 _)⟩
            case measure =>
              have y13 := (H9.out.putReady r1 hr1c).cell.cellD 13 _ (kcells_ready H9.out.len)
              simp only [] at y13
              rw [y13, c13]
              exact hrr
          · rw [if_pos q2] at HP
            have e2 : decide (ee = 0) = false := decide_eq_false q2
            go_wp2
            go_ret
            unfold prepK
            rw [HP.out]
            exact ⟨rfl, L9, H9.out, L9K.out⟩
      · rw [if_pos q1] at HP
        have e1 : decide (be = 0) = false := decide_eq_false q1
        go_wp2
        go_ret
        unfold prepK
        rw [HP.out]
        exact ⟨rfl, L1, H8.out, L8K.out⟩
    · have dm : decide ((r : Int) ≤ lim) = false := decide_eq_false (by omega)
      rw [prepF_stop g] at HP
      go_wp2
      obtain ⟨mS, mh⟩ : ∃ S : World → Prop, ∀ w', S w' ↔ (w'.cell? ⟨cb, 0, none⟩ = some (.pointer (some ⟨q, 0, none⟩)) ∧ w'.cell? ⟨cb, 1, none⟩ = some (.int .i64 f) ∧ w'.cell? ⟨cb, 2, none⟩ = some (.int .i64 c) ∧ w'.cell? ⟨cb, 13, none⟩ = some (.int .i64 r)) := ⟨_, fun _ => Iff.rfl⟩
      have mk0 : ∀ x : Memb mS, x.at_.cell? ⟨cb, 0, none⟩ = some (.pointer (some ⟨q, 0, none⟩)) := fun x => ((mh _).1 x.is).1
      have mk1 : ∀ x : Memb mS, x.at_.cell? ⟨cb, 1, none⟩ = some (.int .i64 f) := fun x => ((mh _).1 x.is).2.1
      have mk2 : ∀ x : Memb mS, x.at_.cell? ⟨cb, 2, none⟩ = some (.int .i64 c) := fun x => ((mh _).1 x.is).2.2.1
      have mk3 : ∀ x : Memb mS, x.at_.cell? ⟨cb, 13, none⟩ = some (.int .i64 r) := fun x => ((mh _).1 x.is).2.2.2
      have mn : Nonempty (Memb mS) := ⟨⟨(wr).drew, (mh _).2 ⟨c0, c1, c2, c13⟩⟩⟩
      have mH := Lib.hid mh
      clear mh
      refine wp_region_mix [10] (InS mS) (by kernel_rfl) (by kernel_rfl) (InS.mk ((mH.out _).2 ⟨c0, c1, c2, c13⟩)) ?_
      refine wpMix_seg 10 (by kernel_rfl) (by decide) ?_
      simp only [List.take_succ_cons, List.take_zero, List.drop_succ_cons, List.drop_zero]
      repeat (go_big_quiet_step (fail))
      refine wpQuiet_nil ?_
      refine wpMix_eff (by kernel_rfl) ?_
      go_wp2_with fail
      refine (GS.out _).mono ?_
      rintro e w7 ⟨rfl, k7⟩
      have K7 := Lib.hid (((Keeps.refl None wr).drew).trans k7 (T := None) (fun _ h => h) (fun _ _ h => h))
      have H7 := Lib.hid (H.out.later K7.out)
      clear k7
      go_wp2
      refine MixK.on (InS.mk ((mH.out _).2 (⟨H7.out.cell.cellD 0 _ rfl, H7.out.cell.cellD 1 _ rfl, H7.out.cell.cellD 2 _ rfl, H7.out.cell.cellD 13 _ (kcells_ready H7.out.len)⟩))) ?_
      refine wpMix_seg 4 (by kernel_rfl) (by decide) ?_
      simp only [List.take_succ_cons, List.take_zero, List.drop_succ_cons, List.drop_zero]
      repeat (go_big_quiet_step (fail))
      refine wpQuiet_nil ?_
      refine wpMix_nil ?_
      clear mk0 mk1 mk2 mk3 mn mH
      -- the limit is named
      clear hlim hlm
      have L7K := Lib.hid (HK.out.trans (KLink.quiet L1 cb K7.out))
      have x0 := H7.out.cell.cellD 0 _ rfl
      have x1 := H7.out.cell.cellD 1 _ rfl
      have x2 := H7.out.cell.cellD 2 _ rfl
      have x13 := H7.out.cell.cellD 13 _ (kcells_ready H7.out.len)
      simp only [] at x13
      go_wp2
      go_ret
      unfold prepK
      rw [HP.out]
      exact ⟨rfl, L1, H7.out, L7K.out⟩
end Go.Proofs.Ytngofnlhbhfigaa
