
/- What the laws of a flash use: words programmed with no cut; slices beside a flash; the law's num and alive. -/
import Derived.Test.YtgehkioneelgcaaJCuXFlErase
namespace Go.Proofs.Ytgehkioneelgcaa
open Go.RowKit

theorem splice_splice (L X Y : List Int) (p : Nat) (h : p + X.length + Y.length ≤ L.length) : splice (splice L p X) (p + X.length) Y = splice L p (X ++ Y) := by
  simp only [splice]
  have h1 : (L.take p ++ (X ++ L.drop (p + X.length))).take (p + X.length) = L.take p ++ X := by
    rw [← List.append_assoc, List.take_append_of_le_length (by rw [List.length_append, List.length_take]; omega), List.take_of_length_le (by rw [List.length_append, List.length_take]; omega)]
  have h2 : (L.take p ++ (X ++ L.drop (p + X.length))).drop (p + X.length + Y.length) = L.drop (p + X.length + Y.length) := by
    have e := splice_drop L p (p + X.length + Y.length) X (by omega) (by omega)
    simpa [splice] using e
  rw [h1, h2, List.length_append, ← Nat.add_assoc, List.append_assoc, List.append_assoc]
theorem splice_empty (L : List Int) (p : Nat) : splice L p [] = L := splice_nil L p
theorem splice_mid (L X : List Int) (p : Nat) (h : p + X.length ≤ L.length) : ((splice L p X).drop p).take X.length = X := by
  simp only [splice]
  rw [List.drop_append_of_le_length (by rw [List.length_take]; omega), List.drop_of_length_le (by rw [List.length_take]; omega), List.nil_append, List.take_append_of_le_length (Nat.le_refl _), List.take_length]
theorem stepped_free {s : FS} (h : s.left < 0) : s.stepped = { s with steps := s.steps + 1 } := if_pos h
theorem progW_free : ∀ (k : Nat) (s : FS) (p : Nat) (ws : List Int), s.left < 0 → ws.length = 8 * k → p + 8 * k ≤ s.b.length → progW k s p ws = ({ s with b := splice s.b p ws, steps := s.steps + k }, 0)
  | 0, s, p, ws, _, hw, _ => by
    have : ws = [] := List.eq_nil_of_length_eq_zero (by omega)
    subst this
    rw [splice_empty]; show (s, (0 : Int)) = _; simp
  | k + 1, s, p, ws, hl, hw, hp => by
    have h8 : (ws.take 8).length = 8 := by rw [List.length_take]; omega
    show (if _ then _ else _) = _
    rw [if_neg (by omega), progW_free k _ _ _ (by show s.stepped.left < 0; rw [stepped_free hl]; exact hl) (by rw [List.length_drop]; omega) (by show _ ≤ (splice s.b p (ws.take 8)).length; rw [splice_len _ _ _ (by omega)]; omega)]
    rw [stepped_free hl]
    show (({ b := splice (splice s.b p (ws.take 8)) (p + 8) (ws.drop 8), er := s.er, steps := s.steps + 1 + (k : Int), left := s.left, pick := s.pick, dark := s.dark } : FS), (0 : Int)) = ({ b := splice s.b p ws, er := s.er, steps := s.steps + ((k + 1 : Nat) : Int), left := s.left, pick := s.pick, dark := s.dark }, 0)
    have e : splice (splice s.b p (ws.take 8)) (p + 8) (ws.drop 8) = splice s.b p ws := by
      have := splice_splice s.b (ws.take 8) (ws.drop 8) p (by rw [h8, List.length_drop]; omega)
      rw [h8, List.take_append_drop] at this
      exact this
    have e2 : s.steps + 1 + (k : Int) = s.steps + ((k + 1 : Nat) : Int) := by omega
    rw [e, e2]
/-- Words that can be programmed are, where no step is broken. -/
theorem prog_free {s : FS} (hd : s.dark = false) (hl : s.left < 0) {a K : Nat} {zs : List Int} (hz : zs.length = 8 * K) (ha : a % 8 = 0) (hb : a + zs.length ≤ s.b.length) (hc : canN ((s.b.drop a).take zs.length) zs = true) :
    s.progF a zs = ({ s with b := splice s.b a zs, steps := s.steps + K }, 0) := by
  unfold FS.progF
  have hw : withinB a zs.length s.b.length = true := decide_eq_true ⟨by omega, by omega, by omega, by omega⟩
  rw [hd, if_neg (by decide), hw, if_neg (by decide), if_neg (by omega), Int.toNat_natCast, hc, if_neg (by decide), progW_free _ _ _ _ hl (by omega) (by omega)]
  have : zs.length / 8 = K := by omega
  rw [this]
  simp [hd]
theorem progW_err : ∀ (k : Nat) (s : FS) (p : Nat) (ws : List Int), s.left < 0 → (progW k s p ws).2 = 0
  | 0, _, _, _, _ => rfl
  | k + 1, s, p, ws, hl => by
    show (if _ then _ else _ : FS × Int).2 = 0
    rw [if_neg (by omega)]
    exact progW_err k _ _ _ (by show s.stepped.left < 0; rw [stepped_free hl]; exact hl)
/-- What is refused changes nothing. -/
theorem prog_refused {s : FS} (hl : s.left < 0) (a : Int) (zs : List Int) (h : (s.progF a zs).2 ≠ 0) : (s.progF a zs).1 = s := by
  unfold FS.progF at h ⊢
  split
  · rfl
  · rename_i h1
    rw [if_neg h1] at h
    split
    · rfl
    · rename_i h2
      rw [if_neg h2] at h
      split
      · rfl
      · rename_i h3
        rw [if_neg h3] at h
        split
        · rfl
        · rename_i h4
          rw [if_neg h4] at h
          exact absurd (progW_err _ _ _ _ hl) h
theorem andNot255 : ∀ n : Fin 256, bits .andNot .u8 (n : Int) 255 = 0 := by decide +kernel
theorem canN_ff (ns : List Int) (hb : ∀ z ∈ ns, 0 ≤ z ∧ z ≤ 255) : canN (List.replicate ns.length 255) ns = true := by
  simp only [canN, decide_eq_true_eq, List.length_replicate, true_and]
  intro i hi
  have h1 := byte_getD hb i
  have h2 : (List.replicate ns.length (255 : Int)).getD i 0 = 255 := by simp [List.getD, hi]
  rw [h2]
  have := andNot255 ⟨(ns.getD i 0).toNat, by omega⟩
  simp only at this
  rwa [Int.toNat_of_nonneg h1.1] at this

/-- What programming leaves alone where no step is broken. -/
theorem progW_keep : ∀ (k : Nat) (s : FS) (p : Nat) (ws : List Int), s.left < 0 → (progW k s p ws).1.er = s.er ∧ (progW k s p ws).1.left = s.left ∧ (progW k s p ws).1.pick = s.pick ∧ (progW k s p ws).1.dark = s.dark ∧ (progW k s p ws).1.steps = s.steps + k
  | 0, s, _, _, _ => ⟨rfl, rfl, rfl, rfl, by show s.steps = s.steps + ((0 : Nat) : Int); omega⟩
  | k + 1, s, p, ws, hl => by
    have h0 : ¬ s.left = 0 := by omega
    have e : progW (k + 1) s p ws = progW k { s.stepped with b := splice s.b p (ws.take 8) } (p + 8) (ws.drop 8) := by show (if _ then _ else _) = _; rw [if_neg h0]
    have hs := stepped_free hl
    obtain ⟨h1, h2, h3, h4, h5⟩ := progW_keep k { s.stepped with b := splice s.b p (ws.take 8) } (p + 8) (ws.drop 8) (by show s.stepped.left < 0; rw [hs]; exact hl)
    rw [e, h1, h2, h3, h4, h5, hs]
    exact ⟨rfl, rfl, rfl, rfl, by show s.steps + 1 + (k : Int) = s.steps + ((k + 1 : Nat) : Int); omega⟩
theorem prog_keep (s : FS) (a : Int) (zs : List Int) (hl : s.left < 0) : (s.progF a zs).1.er = s.er ∧ (s.progF a zs).1.left = s.left ∧ (s.progF a zs).1.pick = s.pick ∧ (s.progF a zs).1.dark = s.dark ∧ s.steps ≤ (s.progF a zs).1.steps ∧ (s.progF a zs).1.steps ≤ s.steps + zs.length := by
  unfold FS.progF
  have self : s.er = s.er ∧ s.left = s.left ∧ s.pick = s.pick ∧ s.dark = s.dark ∧ s.steps ≤ s.steps ∧ s.steps ≤ s.steps + zs.length := ⟨rfl, rfl, rfl, rfl, by omega, by omega⟩
  split
  · exact self
  · split
    · exact self
    · split
      · exact self
      · split
        · exact self
        · obtain ⟨h1, h2, h3, h4, h5⟩ := progW_keep (zs.length / 8) s a.toNat zs hl
          exact ⟨h1, h2, h3, h4, by omega, by omega⟩

/-- Bytes beside a flash. -/
structure Lb (w : World) (L : FL) (A : Option Addr) (n cap : Nat) (zs : List Int) : Prop where
  bs : Bs w A n cap zs
  ap : ∀ b off, 0 < n → A = some ⟨b, off, none⟩ → ¬ L.O b
theorem Lb.apS {w : World} {L : FL} {A : Option Addr} {n cap : Nat} {zs : List Int} (h : Lb w L A n cap zs) : ∀ b off, 0 < n → A = some ⟨b, off, none⟩ → ¬ L.S b := fun b off h0 e hS => h.ap b off h0 e (.inl hS)
theorem Lb.turn {w w' : World} {B : Nat} {L L' : FL} {s' : FS} {A : Option Addr} {n cap : Nat} {zs : List Int} (h : Lb w L A n cap zs) (t : Turn w w' B L L' s') : Lb w' L' A n cap zs :=
  ⟨h.bs.keeps t.keeps (fun b off h0 _ e => h.ap b off h0 e), fun b off h0 e hO => by
    obtain ⟨b', off', e', hb, _⟩ := h.bs.at_ h0
    rw [e] at e'
    cases e'
    rcases t.o b hO with h1 | h1
    · exact h.ap b off h0 e h1
    · omega⟩
theorem Lb.later {w w' : World} {L : FL} {A : Option Addr} {n cap : Nat} {zs : List Int} (h : Lb w L A n cap zs) (hk : Keeps None w w') : Lb w' L A n cap zs := ⟨h.bs.keeps hk (fun _ _ _ _ _ h => h), h.ap⟩
theorem Lb.arg {W w : World} {B : Nat} {L : FL} {s : FS} {A : Option Addr} {n cap : Nat} {zs : List Int} (h : Bs W A n cap zs) (hk : Keeps None W w) (hF : FAt w B L s) (hB : W.heap.size ≤ B) : Lb w L A n cap zs :=
  ⟨h.keeps hk (fun _ _ _ _ _ h => h), fun b off h0 e hO => by
    obtain ⟨b', off', e', hb, _⟩ := h.at_ h0
    rw [e] at e'
    cases e'
    have := hF.low b hO
    omega⟩
theorem Lb.new {w w' : World} {B : Nat} {L : FL} {s : FS} {A : Option Addr} {n cap : Nat} {zs : List Int} (hF : FAt w B L s) (ho : Own w' w.heap.size (.slice A n cap) zs) : Lb w' L A n cap zs :=
  ⟨ownBs ho, fun b off h0 e hO => by
    have h1 := hF.lt b hO
    subst e
    exact ho.notBelow h1 rfl⟩
theorem Turn.next {W w w' : World} {B : Nat} {L L' : FL} {s s' : FS} (t : Turn w w' B L L' s') (h : FAt w B L s) (hk : Keeps None W w) (hB : W.heap.size ≤ B) : Keeps None W w' :=
  hk.trans t.keeps (fun _ h => h) (fun i hi e => by have := h.low i e; omega)
theorem litBs (w : World) (b : Nat) (hb : b = w.heap.size) (zs : List Int) (hz : ∀ z ∈ zs, 0 ≤ z ∧ z ≤ 255) (hl : zs.length ≤ 1000000) : Own (w.alloc (.cells (zs.map (Value.int .u8)).toArray 5)) w.heap.size (.slice (some ⟨b, 0, none⟩) zs.length zs.length) zs := by
  subst hb
  refine ⟨?_, hz⟩
  have := World.ownsRow_lit (base := w.heap.size) (e := 5) (size := 1) w (zs.map (Value.int .u8)).toArray zs.length (Nat.le_refl _) (by unfold maxLen; omega) (by simp)
  simpa using this
theorem madeBs (w : World) (N : Nat) (hN : N ≤ 1000000) : Own (w.alloc (.cells (Array.replicate N (Value.int .u8 0)) 5)) w.heap.size (.slice (some ⟨w.heap.size, 0, none⟩) N N) (List.replicate N 0) := by
  have := litBs w w.heap.size rfl (List.replicate N 0) (by intro z hz; rw [(List.mem_replicate.1 hz).2]; decide) (by rw [List.length_replicate]; omega)
  rw [List.length_replicate] at this
  have e : ((List.replicate N (0 : Int)).map (Value.int .u8)).toArray = Array.replicate N (Value.int .u8 0) := by simp
  rwa [e] at this
theorem bsNil (w : World) : Bs w none 0 0 [] := ownBs (Own.nil w 0)

/-- A flash in a law's walk: made behind W, its pointer ⟨q, 0⟩. -/
structure LF (W w : World) (B q : Nat) (L : FL) (s : FS) : Prop where
  at_ : FAt w B L s
  keeps : Keeps None W w
  le : W.heap.size ≤ B
  q : L.bf = q
theorem LF.later {W w w' : World} {B q : Nat} {L : FL} {s : FS} (h : LF W w B q L s) (hk : Keeps None w w') : LF W w' B q L s := ⟨h.at_.later hk, h.keeps.trans hk (fun _ h => h) (fun _ _ h => h), h.le, h.q⟩
theorem LF.alloc {W w : World} {B q : Nat} {L : FL} {s : FS} (h : LF W w B q L s) (o : Obj) : LF W (w.alloc o) B q L s := h.later ((Keeps.refl None w).alloc o)
theorem LF.drew {W w : World} {B q : Nat} {L : FL} {s : FS} (h : LF W w B q L s) : LF W w.drew B q L s := h.later (Keeps.refl None w).drew
theorem LF.drewN {W w : World} {B q : Nat} {L : FL} {s : FS} (h : LF W w B q L s) (n : Nat) : LF W (w.drewN n) B q L s := h.later ((Keeps.refl None w).drewN n)
theorem LF.turn {W w w' : World} {B q : Nat} {L L' : FL} {s s' : FS} (h : LF W w B q L s) (t : Turn w w' B L L' s') : LF W w' B q L' s' := ⟨t.at_, t.next h.at_ h.keeps h.le, h.le, t.bf.trans h.q⟩
def LTurn (W w : World) (B q : Nat) (L : FL) (r : FS × Int) (e : Ending) (w' : World) : Prop := e = .returned (.int .i64 r.2) ∧ ∃ L', LF W w' B q L' r.1 ∧ Turn w w' B L L' r.1
def LDone (W w : World) (B q : Nat) (L : FL) (s' : FS) (e : Ending) (w' : World) : Prop := e = .returned (.tuple #[]) ∧ ∃ L', LF W w' B q L' s' ∧ Turn w w' B L L' s'
section
variable {W w : World} {B q : Nat} {L : FL} {s : FS}
theorem lprogram (h : LF W w B q L s) {A : Option Addr} {m c : Nat} {zs : List Int} (hb : Lb w L A m c zs) (a : Int) (hst : 0 ≤ s.steps ∧ s.steps + m ≤ 1000000000000) : Calls Try.prog 48 #[.pointer (some ⟨q, 0, none⟩), .int .i64 a, .slice A m c] w (LTurn W w B q L (s.progF a zs)) := by
  have := fprogram_any B L s a A m c zs w h.at_ hb.bs hst hb.apS
  rw [FL.p, h.q] at this
  exact this.mono fun e w' ⟨h1, L', t⟩ => ⟨h1, L', h.turn t, t⟩
theorem lerase (h : LF W w B q L s) (k : Int) (hst : 0 ≤ s.steps ∧ s.steps ≤ 1000000000000) (her : ∀ i, 0 ≤ s.er.getD i 0 ∧ s.er.getD i 0 ≤ 1000000000000) : Calls Try.prog 55 #[.pointer (some ⟨q, 0, none⟩), .int .i64 k] w (LTurn W w B q L (s.eraseF k)) := by
  have := ferase_any B L s k w h.at_ hst her
  rw [FL.p, h.q] at this
  exact this.mono fun e w' ⟨h1, L', t⟩ => ⟨h1, L', h.turn t, t⟩
theorem larm (h : LF W w B q L s) {A : Option Addr} {m c : Nat} {ps : List Int} (hb : Bs w A m c ps) (hm : m ≤ 140737488355328) (after : Int) (hx : after ≤ 9223372036854775807) : Calls Try.prog 12 #[.pointer (some ⟨q, 0, none⟩), .int .i64 after, .slice A m c] w (LDone W w B q L (s.armF after ps)) := by
  have := farm_any B L s after A m c ps w h.at_ hx hb hm
  rw [FL.p, h.q] at this
  exact this.mono fun e w' ⟨h1, L', t⟩ => ⟨h1, L', h.turn t, t⟩
theorem lboot (h : LF W w B q L s) : Calls Try.prog 14 #[.pointer (some ⟨q, 0, none⟩)] w (LDone W w B q L s.bootF) := by
  have := fboot_any B L s w h.at_
  rw [FL.p, h.q] at this
  exact this.mono fun e w' ⟨h1, L', t⟩ => ⟨h1, L', h.turn t, t⟩
theorem lpeek (h : LF W w B q L s) (a m : Int) : Calls Try.prog 64 #[.pointer (some ⟨q, 0, none⟩), .int .i64 a, .int .i64 m] w (Cloned w (s.peekF a m)) := by
  have := fpeek_any B L s a m w h.at_
  rwa [FL.p, h.q] at this
theorem lread (h : LF W w B q L s) (a m : Int) : Calls Try.prog 51 #[.pointer (some ⟨q, 0, none⟩), .int .i64 a, .int .i64 m] w (ReadTold w (s.readF a m)) := by
  have := fread_any B L s a m w h.at_
  rwa [FL.p, h.q] at this
theorem lsize (h : LF W w B q L s) : Calls Try.prog 36 #[.pointer (some ⟨q, 0, none⟩)] w (Same (.int .i64 s.b.length) w) := by
  have := fsize_any B L s w h.at_
  rwa [FL.p, h.q, ← h.at_.bl] at this
theorem loff (h : LF W w B q L s) : Calls Try.prog 58 #[.pointer (some ⟨q, 0, none⟩)] w (Same (.bool s.dark) w) := by
  have := foff_any B L s w h.at_
  rwa [FL.p, h.q] at this
end
/-- A new one. -/
theorem lnew {W w : World} (hk : Keeps None W w) (n : Int) : Calls Try.prog 7 #[.int .i64 n] w fun e w' => ∃ q L, e = .returned (.pointer (some ⟨q, 0, none⟩)) ∧ LF W w' w.heap.size q L (newF n) :=
  (fnew_any n w).mono fun e w' ⟨L, h1, h2, _, h4⟩ => ⟨L.bf, L, h1, h2, hk.trans h4 (fun _ h => h) (fun _ _ h => h), hk.size, rfl⟩

end Go.Proofs.Ytgehkioneelgcaa
