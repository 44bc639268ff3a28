/- A cursor of the laws, over a flash of which no one else holds the blocks; the example of the document. -/
import Derived.Test.YtngofnlhbhfigaaKcInv
namespace Go.Proofs.Ytngofnlhbhfigaa
open Go.RowKit

structure LK (W w : World) (B q : Nat) (L : FL) (s : FS) (cb f c : Nat) (k : KS) : Prop where
  kat : KAt w B L s cb q f c k
  keeps : Keeps None W w
  le : W.heap.size ≤ B
section
variable {W w w' : World} {B q : Nat} {L L' : FL} {s s' : FS} {cb f c : Nat} {k k' : KS}
theorem LK.later (h : LK W w B q L s cb f c k) (hk : Keeps None w w') : LK W w' B q L s cb f c k := ⟨h.kat.later hk, h.keeps.trans hk (fun _ h => h) (fun _ _ h => h), h.le⟩
theorem LK.drew (h : LK W w B q L s cb f c k) : LK W w.drew B q L s cb f c k := h.later (Keeps.refl None w).drew
theorem LK.alloc (h : LK W w B q L s cb f c k) (o : Obj) : LK W (w.alloc o) B q L s cb f c k := h.later ((Keeps.refl None w).alloc o)
theorem LK.lf (h : LK W w B q L s cb f c k) : LF W w B q L s := ⟨h.kat.fl, h.keeps, h.le, h.kat.hq⟩
theorem LK.link (h : LK W w B q L s cb f c k) (l : KLink w w' L L' cb) (hk : KAt w' B L' s' cb q f c k') : LK W w' B q L' s' cb f c k' :=
  ⟨hk, h.keeps.trans l.keeps (fun _ h => h) (fun i hi e => by
    have h1 := h.le
    rcases e with e | e
    · have := h.kat.fl.low i e; omega
    · subst e; have := h.kat.lo; omega), h.le⟩
theorem LK.turn (h : LK W w B q L s cb f c k) (t : Turn w w' B L L' s') : LK W w' B q L' s' cb f c k := h.link (KLink.turn cb t) (h.kat.turn t)
end
def LKTurn (W w : World) (B q : Nat) (L : FL) (cb f c : Nat) (p : FS × KS × Int) (e : Ending) (w' : World) : Prop := e = .returned (.int .i64 p.2.2) ∧ ∃ L', LK W w' B q L' p.1 cb f c p.2.1 ∧ KLink w w' L L' cb
section
variable {W w : World} {B q : Nat} {L : FL} {s : FS} {cb f c : Nat} {k : KS}
theorem lkwrite (h : LK W w B q L s cb f c k) (h7 : k.err = 0 → k.n < 8) {A : Option Addr} {m cap : Nat} {zs : List Int} (hb : KB w L cb A m cap zs) (hr : Room s (m * 264)) :
    Calls Try.prog 52 #[.pointer (some ⟨cb, 0, none⟩), .slice A m cap] w (LKTurn W w B q L cb f c (writeK f c s k zs)) :=
  (kwrite_any B L s cb q f c k A m cap zs w h.kat h7 hb hr).mono fun e w' ⟨h1, L', h2, l⟩ => ⟨h1, L', h.link l h2, l⟩
theorem lkflush (h : LK W w B q L s cb f c k) (hr : Room s 264) : Calls Try.prog 53 #[.pointer (some ⟨cb, 0, none⟩)] w (LKTurn W w B q L cb f c (flushK f c s k)) :=
  (kflush_any B L s cb q f c k w h.kat hr).mono fun e w' ⟨h1, L', h2, l⟩ => ⟨h1, L', h.link l h2, l⟩
theorem lkat (h : LK W w B q L s cb f c k) : Calls Try.prog 55 #[.pointer (some ⟨cb, 0, none⟩)] w (Same (.int .i64 k.at_) w) := kat_any B L s cb q f c k w h.kat
theorem lkheld (h : LK W w B q L s cb f c k) : Calls Try.prog 56 #[.pointer (some ⟨cb, 0, none⟩)] w (Cloned w (k.word.take k.n)) := kheld_any B L s cb q f c k w h.kat
def LKMade (W w : World) (B q : Nat) (L : FL) (s : FS) (f c : Nat) (p : Option KS × Int) (e : Ending) (w' : World) : Prop :=
  match p.1 with
  | none => e = .returned (.tuple #[.pointer none, .int .i64 p.2]) ∧ Keeps None w w'
  | some k => ∃ cb, e = .returned (.tuple #[.pointer (some ⟨cb, 0, none⟩), .int .i64 p.2]) ∧ LK W w' B q L s cb f c k ∧ w.heap.size ≤ cb ∧ Keeps None w w'
theorem lknew (h : LF W w B q L s) (hf : f + c ≤ s.er.length) (a : Int) : Calls Try.prog 51 #[.agg #[.pointer (some ⟨q, 0, none⟩), .int .i64 f, .int .i64 c], .int .i64 a] w (LKMade W w B q L s f c (newK f c s a)) :=
  (knew_any B L s q f c a w h.at_ h.q (by rw [← h.at_.el]; exact hf) (by have h1 := h.at_.bB; have h2 := h.at_.lt L.bf (.inl (.inl rfl)); omega)).mono fun e w' hm => by
    unfold KMade at hm
    unfold LKMade
    split at hm
    · rename_i h1; rw [h1]; exact hm
    · rename_i k h1
      obtain ⟨cb, h2, h3, h4, h5⟩ := hm
      rw [h1]
      exact ⟨cb, h2, ⟨h3, h.keeps.trans h5 (fun _ h => h) (fun _ _ h => h), h.le⟩, h4, h5⟩
end
theorem KB.arg {W w : World} {B q : Nat} {L : FL} {s : FS} {cb f c : Nat} {k : KS} {A : Option Addr} {n cap : Nat} {zs : List Int} (h : Bs W A n cap zs) (hL : LK W w B q L s cb f c k) : KB w L cb A n cap zs :=
  ⟨h.keeps hL.keeps (fun _ _ _ _ _ h => h), fun b off h0 e => by
    obtain ⟨b', off', e', hb, _⟩ := h.at_ h0
    rw [e] at e'
    cases e'
    have h1 := hL.le
    exact ⟨fun hO => by have := hL.kat.fl.low b hO; omega, by have := hL.kat.lo; omega⟩⟩
theorem KB.new {W w w' : World} {B q : Nat} {L : FL} {s : FS} {cb f c : Nat} {k : KS} {A : Option Addr} {n cap : Nat} {zs : List Int} (hL : LK W w B q L s cb f c k) (ho : Own w' w.heap.size (.slice A n cap) zs) : KB w' L cb A n cap zs :=
  ⟨ownBs ho, fun b off h0 e => by
    subst e
    exact ⟨fun hO => ho.notBelow (hL.kat.fl.lt b hO) rfl, fun e => ho.notBelow (e ▸ hL.kat.cell.lt) rfl⟩⟩
theorem KB.take {w : World} {L : FL} {cb : Nat} {A : Option Addr} {n cap : Nat} {zs : List Int} (h : KB w L cb A n cap zs) {m : Nat} (hm : m ≤ n) : KB w L cb A m cap (zs.take m) :=
  ⟨h.bs.take hm, fun b off h0 e => h.ap b off (by omega) e⟩

/-- Only a blank byte stands where bytes are to come. -/
def okB (_ : Nat) (z : Int) : Prop := z = 255
theorem okB_255 (i : Nat) : okB i 255 := rfl
theorem okB_can {D : Nat → Int} (hD : ∀ i, 0 ≤ D i ∧ D i ≤ 255) {N : Nat} (i : Nat) (z : Int) (_ : i < N) (h : okB i z) : canB z (D i) := by
  unfold okB at h; subst h; exact canB_255 (hD i)
theorem okB_fl {n : Nat} (i : Nat) (z : Int) (_ : n ≤ i) (h : okB i z) : canB z 255 := by
  unfold okB at h; subst h; exact canB_255 (by decide)
/-! ### A cursor that begins -/
def k0 (s : FS) (a : Nat) : KS := { at_ := a, n := a % 8, word := splice [0, 0, 0, 0, 0, 0, 0, 0] 0 ((s.b.drop (a - a % 8)).take (a % 8)), ready := (a + 1023) / 1024, err := 0 }
theorem start_new {c : Nat} {s : FS} (h : Nrm c s) (a : Nat) (ha : a ≤ 1024 * c) : newK 0 c s a = (some (k0 s a), 0) := by
  unfold newK k0
  have e1 : ((a : Int) % 8) = ((a % 8 : Nat) : Int) := by omega
  have e2 : ((a : Int) - ((a % 8 : Nat) : Int)) = ((a - a % 8 : Nat) : Int) := by omega
  have hg : s.gread 0 c ((a - a % 8 : Nat) : Int) ((a % 8 : Nat) : Int) = ((s.b.drop (a - a % 8)).take (a % 8), 0) := by
    unfold FS.gread
    have hw : withinB ((a - a % 8 : Nat) : Int) ((a % 8 : Nat) : Int) (1024 * c : Nat) = true := decide_eq_true ⟨by omega, by omega, by omega, by omega⟩
    rw [if_neg (by rw [h.dark]; decide), if_pos hw]
    have e : (1024 * ((0 : Nat) : Int) + ((a - a % 8 : Nat) : Int)) = ((a - a % 8 : Nat) : Int) := by omega
    rw [e]
    unfold FS.readF
    rw [if_neg (by rw [h.dark]; decide), h.bl, if_pos hw, Int.toNat_natCast, Int.toNat_natCast]
  rw [if_neg (by omega), e1, e2, hg, if_neg (by simp), Int.toNat_natCast]
theorem start_inv {c : Nat} {s : FS} (h : Nrm c s) {a : Nat} (ha : a ≤ 1024 * c) (ok : Nat → Int → Prop) (D : Nat → Int) (hlow : ∀ i, i < a → s.b.getD i 0 = D i) (hmid : ∀ i, a ≤ i → i < 1024 * ((a + 1023) / 1024) → ok i (s.b.getD i 0)) :
    KInv c ok D (fun i => s.b.getD i 0) (fun x => s.er.getD x 0) ((a + 1023) / 1024) s (k0 s a) a := by
  have hl : ((s.b.drop (a - a % 8)).take (a % 8)).length = a % 8 := by rw [List.length_take, List.length_drop, h.bl]; omega
  refine ⟨⟨h, ?_, fun i hi => ?_, Nat.mod_le _ _, Nat.sub_le _ _, Nat.le_refl _, hlow, hmid, fun i _ => rfl, by show a ≤ 1024 * ((a + 1023) / 1024); omega, by show (a + 1023) / 1024 ≤ c; omega, Nat.le_refl _, fun x => ?_, fun h0 => ?_⟩, rfl, rfl⟩
  · show (splice _ 0 _).length = 8
    rw [splice_len _ _ _ (by rw [hl]; show 0 + a % 8 ≤ 8; omega)]; rfl
  · have hi' : i < a % 8 := hi
    show (splice [0, 0, 0, 0, 0, 0, 0, 0] 0 ((s.b.drop (a - a % 8)).take (a % 8))).getD i 0 = D (a - a % 8 + i)
    rw [splice_getD _ _ _ (by rw [hl]; show 0 + a % 8 ≤ 8; omega), hl, if_pos (by omega), Nat.sub_zero, cut_getD _ _ _ _ hi']
    exact hlow _ (by omega)
  · show s.er.getD x 0 = s.er.getD x 0 + _
    rw [if_neg (by show ¬ ((a + 1023) / 1024 ≤ x ∧ x < (a + 1023) / 1024 ∧ _); omega)]; omega
  · show (a + 1023) / 1024 = _
    rw [if_pos (by omega)]; omega
theorem KInv.held {c : Nat} {ok : Nat → Int → Prop} {D b0 er0 : Nat → Int} {r0 : Nat} {s : FS} {k : KS} {u : Nat} (h : KInv c ok D b0 er0 r0 s k u) : k.word.take k.n = (List.range k.n).map (fun i => D (k.at_ - k.n + i)) := by
  have hn := h.n
  have hl := h.core.len
  refine List.ext_getElem (by rw [List.length_take, List.length_map, List.length_range, hl]; omega) fun i h1 h2 => ?_
  rw [List.length_take, hl] at h1
  have := h.core.word i (by omega)
  rw [getD_get 0 (by omega)] at this
  simpa using this
theorem KInv.n7 {c : Nat} {ok : Nat → Int → Prop} {D b0 er0 : Nat → Int} {r0 : Nat} {s : FS} {k : KS} {u : Nat} (h : KInv c ok D b0 er0 r0 s k u) : k.n < 8 := by have := h.n; omega
theorem newF_nrm (n : Nat) (h1 : 1 ≤ n) (h2 : n ≤ 256) : Nrm n (newF n) := by
  have e : (max 1 (min (n : Int) 256)).toNat = n := by omega
  unfold newF
  rw [e]
  exact ⟨rfl, (show (-1 : Int) < 0 by decide), List.length_replicate, List.length_replicate⟩
theorem newF_b (n : Nat) (h1 : 1 ≤ n) (h2 : n ≤ 256) (i : Nat) (hi : i < 1024 * n) : (newF n).b.getD i 0 = 255 := by
  have e : (max 1 (min (n : Int) 256)).toNat = n := by omega
  unfold newF
  rw [e]
  exact rep_getD _ _ hi
theorem newF_er (n : Nat) (h1 : 1 ≤ n) (h2 : n ≤ 256) (x : Nat) : (newF n).er.getD x 0 = 0 := by
  have e : (max 1 (min (n : Int) 256)).toNat = n := by omega
  unfold newF
  rw [e]
  show (List.replicate n (0 : Int)).getD x 0 = 0
  by_cases h : x < n
  · rw [getD_get 0 (by simpa using h), List.getElem_replicate]
  · rw [List.getD, List.getElem?_eq_none (by simpa using h)]; rfl
theorem newF_room (n : Nat) (h1 : 1 ≤ n) (h2 : n ≤ 256) : Room (newF n) 100000000 := ⟨⟨Int.le_refl _, (show (0 : Int) + ((100000000 : Nat) : Int) ≤ 1000000000000 by decide)⟩, fun i => by rw [newF_er n h1 h2]; decide⟩
theorem newF_steps (n : Nat) : (newF n).steps = 0 := rfl
theorem putK_len (f c : Nat) (s : FS) (k : KS) (z : Int) (h : k.word.length = 8) : (putK f c s k z).2.1.word.length = 8 := by
  have hp := progK_st f c s (k.got z)
  have hl : (k.got z).word.length = 8 := by show (k.word.set k.n z).length = 8; rw [List.length_set]; exact h
  unfold putK
  split
  · exact hl
  · split
    · show (progK f c s (k.got z)).2.1.word.length = 8; rw [hp.2.2.1]; exact hl
    · rw [hp.2.2.1]; exact hl
theorem Room.row {f c : Nat} (hc : c ≤ 256) : ∀ (zs : List Int) (s : FS) (k : KS) (m : Nat), k.err = 0 → k.n < 8 → k.word.length = 8 → Room s (m + zs.length * 264) → Room (rowK f c zs s k).1 m
  | [], s, k, m, _, _, _, h => h.less (by omega)
  | z :: zs, s, k, m, h0, h7, h8, h => by
    have st := putK_st f c s k z h0 h7
    have hl := putK_len f c s k z h8
    have h1 : Room (putK f c s k z).1 (m + zs.length * 264) := Room.put (h.less (by show _ ≤ m + (zs.length + 1) * 264; omega)) hc h8 h7
    rw [rowK_cons]
    split
    · exact h1.less (by omega)
    · rename_i he
      have he' : (putK f c s k z).2.2 = 0 := Classical.byContradiction he
      exact Room.row hc zs _ _ m (st.2.1.trans he') (st.2.2 he') hl h1
theorem Room.write {f c : Nat} {s : FS} {k : KS} {m : Nat} {zs : List Int} (hc : c ≤ 256) (h7 : k.err = 0 → k.n < 8) (h8 : k.word.length = 8) (h : Room s (m + zs.length * 264)) : Room (writeK f c s k zs).1 m := by
  unfold writeK
  split
  · exact h.less (by omega)
  · rename_i he
    have he' : k.err = 0 := Classical.byContradiction he
    split
    · exact h.less (by omega)
    · exact Room.row hc zs s k m he' (h7 he') h8 h
theorem peek_eq {s : FS} {a n : Nat} (h : a + n ≤ s.b.length) {X : List Int} (hl : X.length = n) (hx : ∀ i, i < n → s.b.getD (a + i) 0 = X.getD i 0) : s.peekF a n = X := by
  have hw : withinB a n s.b.length = true := decide_eq_true ⟨by omega, by omega, by omega, by omega⟩
  unfold FS.peekF
  rw [if_pos hw, Int.toNat_natCast, Int.toNat_natCast]
  have h0 : ((s.b.drop a).take n).length = n := by rw [List.length_take, List.length_drop]; omega
  refine List.ext_getElem (h0.trans hl.symm) fun i h1 h2 => ?_
  have := hx i (by omega)
  rw [← cut_getD _ _ _ _ (show i < n by omega), getD_get 0 h1, getD_get 0 h2] at this
  exact this
set_option maxRecDepth 100000 in
theorem num4_any (x : Int) (w : World) : Calls Try.prog 54 #[.int .i64 x] w (Same (.int .i64 x) w) := by
  go_enter Try.func54, Try.ntmps54
  go_wp2
  go_ret
  exact ⟨rfl, rfl⟩
end Go.Proofs.Ytngofnlhbhfigaa
