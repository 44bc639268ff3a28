/- Both cursors in a law's walk. -/
import Derived.Test.YtngofnlhbhfigaaRkSim2
import Derived.Test.YtngofnlhbhfigaaKcW
import Derived.Test.YtngofnlhbhfigaaRfLaw
namespace Go.Proofs.Ytngofnlhbhfigaa
open Go.RowKit

theorem KAt.keeps {w w' : World} {B : Nat} {L : FL} {s : FS} {cb q f c : Nat} {k : KS} {S : Nat → Prop} (h : KAt w B L s cb q f c k) (hk : Keeps S w w') (h1 : ∀ j, L.O j → ¬ S j) (h2 : ¬ S cb) : KAt w' B L s cb q f c k :=
  ⟨h.fl.keeps hk h1, h.hq, hk.blk h.cell h2, h.no, h.lo, h.len, h.by_, h.n8, h.na, h.al, h.rc, h.fc⟩
/-- The blocks of the reference's cursor and flash. -/
def RO (Lr : RL) (K : RKL) (n j : Nat) : Prop := Lr.O j ∨ K.X j ∨ (0 < n ∧ ∃ off, K.A = some ⟨j, off, none⟩)
structure FRC (W w : World) (B q : Nat) (L : FL) (s : FS) (cb f c : Nat) (k : KS) (Br qr : Nat) (Lr : RL) (r : FS) (K : RKL) (kr : RS) : Prop where
  pf : LK W w B q L s cb f c k
  rf : RKAt w Br Lr r K qr f c kr
  gB : W.heap.size ≤ Br
  dj : ∀ j, (L.O j ∨ j = cb) → ¬ RO Lr K kr.held.length j
section
variable {W w w' : World} {B q : Nat} {L L' : FL} {s s' : FS} {cb f c : Nat} {k k' : KS} {Br qr : Nat} {Lr Lr' : RL} {r r' : FS} {K K' : RKL} {kr kr' : RS}
theorem RKAt.rolt (h : RKAt w Br Lr r K qr f c kr) {j : Nat} (hj : RO Lr K kr.held.length j) : j < w.heap.size := by
  rcases hj with hj | hj | ⟨h0, off, e⟩
  · exact h.fl.lt j hj
  · exact h.xlt j hj
  · obtain ⟨b', off', e', hb, _⟩ := h.held.at_ h0
    rw [e] at e'; cases e'; exact hb
theorem RKAt.rolo (h : RKAt w Br Lr r K qr f c kr) {j : Nat} (hj : RO Lr K kr.held.length j) : Br ≤ j := by
  rcases hj with hj | hj | ⟨h0, off, e⟩
  · exact h.fl.low j hj
  · exact h.lo j hj
  · exact (h.hap j off h0 e).2.2
theorem FRC.later (h : FRC W w B q L s cb f c k Br qr Lr r K kr) (hk : Keeps None w w') : FRC W w' B q L s cb f c k Br qr Lr r K kr := ⟨h.pf.later hk, h.rf.later hk, h.gB, h.dj⟩
theorem FRC.drew (h : FRC W w B q L s cb f c k Br qr Lr r K kr) : FRC W w.drew B q L s cb f c k Br qr Lr r K kr := h.later (Keeps.refl None w).drew
theorem FRC.keeps (h : FRC W w B q L s cb f c k Br qr Lr r K kr) : Keeps None W w := h.pf.keeps
/-- The program's side went on. -/
theorem FRC.turnK (h : FRC W w B q L s cb f c k Br qr Lr r K kr) (hk : LK W w' B q L' s' cb f c k') (l : KLink w w' L L' cb) : FRC W w' B q L' s' cb f c k' Br qr Lr r K kr :=
  ⟨hk, h.rf.keeps l.keeps (fun j hj hS => h.dj j hS (.inl hj)) (fun j hj hS => h.dj j hS (.inr (.inl hj))) (fun b off h0 e hS => h.dj b hS (.inr (.inr ⟨h0, off, e⟩))), h.gB, fun j hj hR => by
    rcases hj with hj | hj
    · rcases l.o j hj with h1 | h1
      · exact h.dj j (.inl h1) hR
      · have := h.rf.rolt hR; omega
    · exact h.dj j (.inr hj) hR⟩
theorem FRC.turnF (h : FRC W w B q L s cb f c k Br qr Lr r K kr) (t : Turn w w' B L L' s') : FRC W w' B q L' s' cb f c k Br qr Lr r K kr := h.turnK (h.pf.turn t) (KLink.turn cb t)
/-- The reference's side went on. -/
theorem FRC.turnH (h : FRC W w B q L s cb f c k Br qr Lr r K kr) {A' : Option Addr} {cap' : Nat} (hk : RKAt w' Br Lr' r' ⟨K.cb, K.rb, K.eb, A', cap'⟩ qr f c kr') (l : RKLink w w' Lr Lr' K)
    (ha : ∀ b off, 0 < kr'.held.length → A' = some ⟨b, off, none⟩ → (0 < kr.held.length ∧ ∃ o, K.A = some ⟨b, o, none⟩) ∨ w.heap.size ≤ b) : FRC W w' B q L s cb f c k Br qr Lr' r' ⟨K.cb, K.rb, K.eb, A', cap'⟩ kr' :=
  ⟨⟨h.pf.kat.keeps l.keeps (fun j hj hS => h.dj j (.inl hj) (hS.elim .inl (fun hX => .inr (.inl hX)))) (fun hS => h.dj cb (.inr rfl) (hS.elim .inl (fun hX => .inr (.inl hX)))), h.pf.keeps.trans l.keeps (fun _ h => h) (fun i hi hS => by
      have h1 := h.gB
      have := h.rf.rolo (j := i) (hS.elim .inl (fun hX => .inr (.inl hX)))
      omega), h.pf.le⟩, hk, h.gB, fun j hj hR => by
    have hlt : j < w.heap.size := by
      rcases hj with hj | rfl
      · exact h.pf.kat.fl.lt j hj
      · exact h.pf.kat.cell.lt
    rcases hR with h1 | h1 | ⟨h0, off, e⟩
    · rcases l.o j h1 with h2 | h2
      · exact h.dj j hj (.inl h2)
      · omega
    · exact h.dj j hj (.inr (.inl h1))
    · rcases ha j off h0 e with h2 | h2
      · exact h.dj j hj (.inr (.inr h2))
      · omega⟩
theorem FRC.turnS (h : FRC W w B q L s cb f c k Br qr Lr r K kr) (hk : RKAt w' Br Lr' r' K qr f c kr') (l : RKLink w w' Lr Lr' K) (hl : kr'.held.length = kr.held.length) : FRC W w' B q L s cb f c k Br qr Lr' r' K kr' := by
  obtain ⟨x1, x2, x3, x4, x5⟩ := K
  exact h.turnH (A' := x4) (cap' := x5) hk l (fun b off h0 e => .inl ⟨by rw [← hl]; exact h0, off, e⟩)
theorem FRC.turnR (h : FRC W w B q L s cb f c k Br qr Lr r K kr) (t : RTurn w w' Br Lr Lr' r') : FRC W w' B q L s cb f c k Br qr Lr' r' K kr := h.turnS (h.rf.turn t) (RKLink.turn K t) rfl
/-- Bytes that came in. -/
theorem RKB.arg {A : Option Addr} {n cap : Nat} {zs : List Int} (hb : Bs W A n cap zs) (h : FRC W w B q L s cb f c k Br qr Lr r K kr) : RKB w Lr K A n cap zs :=
  ⟨hb.keeps h.keeps (fun _ _ _ _ _ h => h), fun b off h0 e => by
    obtain ⟨b', off', e', hlt, _⟩ := hb.at_ h0
    rw [e] at e'; cases e'
    have h1 := h.gB
    exact ⟨fun hO => by have := h.rf.fl.low b hO; omega, fun hX => by have := h.rf.lo b hX; omega⟩⟩
theorem RKB.later {A : Option Addr} {n cap : Nat} {zs : List Int} (h : RKB w Lr K A n cap zs) (hk : Keeps None w w') : RKB w' Lr K A n cap zs := h.link (RKLink.quiet Lr K hk)
end
theorem Room.armX {s : FS} {m : Nat} (h : Room s m) (after : Int) (ps : List Int) : Room (s.armF after ps) m := by
  unfold FS.armF
  split
  · exact ⟨h.st, h.er⟩
  · exact ⟨h.st, h.er⟩
theorem Room.bootX {s : FS} {m : Nat} (h : Room s m) : Room s.bootF m := ⟨h.st, h.er⟩
/-- The reference's flash takes other bytes. -/
theorem RAt.setB {w w' : World} {Bq : Nat} {L : RL} {s s' : FS} {g cap : Nat} (h : RAt w Bq L s) (hk : Keeps (fun j => j = L.bf) w w') (hc : w' = w.setCell ⟨L.bf, 0, none⟩ (.slice (some ⟨g, 0, none⟩) L.N cap))
    (ho : Own w Bq (.slice (some ⟨g, 0, none⟩) L.N cap) s'.b) (hn : ¬ L.O g) (h1 : s'.steps = s.steps) (h2 : s'.left = s.left) (h3 : s'.dark = s.dark) (h4 : s'.er = s.er) (h5 : s.left < 0) :
    RAt w' Bq { L with gb := g, capb := cap } s' := by
  have hb := h.f.set 0 (.slice (some ⟨g, 0, none⟩) L.N cap)
  refine ⟨?_, ho.keeps hk (fun b e => by cases e; exact fun e => hn (.inl (.inl e))), by rw [h4]; exact hk.blk h.e (fun e => h.d2 e.symm), h.p.keeps hk (fun b e hb => h.pn b e (.inl hb)), by rw [h4]; exact h.el, fun hh => by rw [h2] at hh; omega, by rw [h2]; exact h.lm, by rw [h2]; exact h.lx, h.nN, h.n0, h.n9, h.bB, h.eB, fun e => hn (.inl (.inl e.symm)), h.d2, fun e => hn (.inl (.inr (.inr e))), fun b e hS => by
    rcases hS with rfl | rfl | rfl
    · exact h.pn _ e (.inl rfl)
    · exact hn (.inr e)
    · exact h.pn _ e (.inr (.inr rfl)), h.pl⟩
  rw [hc, h1, h2, h3]
  exact hb
end Go.Proofs.Ytngofnlhbhfigaa
