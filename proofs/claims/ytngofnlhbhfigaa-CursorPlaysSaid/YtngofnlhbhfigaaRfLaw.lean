/- Both flashes in a law's walk; Read on a copy of the reference's. -/
import Derived.Test.YtngofnlhbhfigaaRfCopy
import Derived.Test.YtngofnlhbhfigaaRfSim
import Derived.Test.YtngofnlhbhfigaaKc
namespace Go.Proofs.Ytngofnlhbhfigaa
open Go.RowKit

theorem Rb.arg {W w : World} {Br : Nat} {Lr : RL} {r : FS} {A : Option Addr} {n cap : Nat} {zs : List Int} (h : Bs W A n cap zs) (hk : Keeps None W w) (hg : RAt w Br Lr r) (hB : W.heap.size ≤ Br) : Rb w Lr A n cap zs :=
  ⟨h.keeps hk (fun _ _ _ _ _ h => h), fun b off h0 e hO => by
    obtain ⟨b', off', e', hb, _⟩ := h.at_ h0
    rw [e] at e'
    cases e'
    have := hg.low b hO
    omega⟩
/-- Both flashes, apart from each other, made behind W. -/
structure FR (W w : World) (B q : Nat) (L : FL) (s : FS) (Br qr : Nat) (Lr : RL) (r : FS) : Prop where
  f : LF W w B q L s
  g : RAt w Br Lr r
  gq : Lr.bf = qr
  gB : W.heap.size ≤ Br
  dj : ∀ k, L.O k → ¬ Lr.O k
section
variable {W w w' : World} {B q : Nat} {L L' : FL} {s s' : FS} {Br qr : Nat} {Lr Lr' : RL} {r r' : FS}
theorem FR.turnF (h : FR W w B q L s Br qr Lr r) (t : Turn w w' B L L' s') : FR W w' B q L' s' Br qr Lr r :=
  ⟨h.f.turn t, h.g.keeps t.keeps (fun k hk hL => h.dj k hL hk), h.gq, h.gB, fun k hk hr => by
    rcases t.o k hk with h1 | h1
    · exact h.dj k h1 hr
    · have := h.g.lt k hr; omega⟩
theorem FR.turnR (h : FR W w B q L s Br qr Lr r) (t : RTurn w w' Br Lr Lr' r') : FR W w' B q L s Br qr Lr' r' :=
  ⟨⟨h.f.at_.keeps t.keeps (fun k hk hO => h.dj k hk hO), h.f.keeps.trans t.keeps (fun _ h => h) (fun i hi e => by have := h.g.low i e; have := h.gB; omega), h.f.le, h.f.q⟩, t.at_, t.bf.trans h.gq, h.gB, fun k hk hr => by
    rcases t.o k hr with h1 | h1
    · exact h.dj k hk h1
    · have := h.f.at_.lt k hk; omega⟩
theorem FR.later (h : FR W w B q L s Br qr Lr r) (hk : Keeps None w w') : FR W w' B q L s Br qr Lr r := ⟨h.f.later hk, h.g.later hk, h.gq, h.gB, h.dj⟩
theorem FR.drew (h : FR W w B q L s Br qr Lr r) : FR W w.drew B q L s Br qr Lr r := h.later (Keeps.refl None w).drew
theorem FR.alloc (h : FR W w B q L s Br qr Lr r) (o : Obj) : FR W (w.alloc o) B q L s Br qr Lr r := h.later ((Keeps.refl None w).alloc o)
theorem FR.keeps (h : FR W w B q L s Br qr Lr r) : Keeps None W w := h.f.keeps
end
theorem Room.progF {s : FS} {m : Nat} (h : Room s (m + 1101)) (a : Int) {zs : List Int} (hz : zs.length ≤ 1100) : Room (s.progF a zs).1 m := by
  have := prog_more s a zs
  have h1 := h.st
  exact ⟨by omega, fun i => by rw [this.1]; have := h.er i; omega⟩
theorem Room.eraseF {s : FS} {m : Nat} (h : Room s (m + 1101)) (k : Int) : Room (s.eraseF k).1 m := by
  have := erase_more s k
  have h1 := h.st
  exact ⟨by omega, fun i => by have h2 := h.er i; have h3 := this.2.2 i; omega⟩
theorem Room.armF {s : FS} {m : Nat} (h : Room s (m + 1101)) (after : Int) (ps : List Int) : Room (s.armF after ps) m := by
  have h' := h.less (show m ≤ m + 1101 by omega)
  unfold FS.armF
  split
  · exact ⟨h'.st, h'.er⟩
  · exact ⟨h'.st, h'.er⟩
theorem Room.bootF {s : FS} {m : Nat} (h : Room s (m + 1101)) : Room s.bootF m := ⟨(h.less (show m ≤ m + 1101 by omega)).st, (h.less (show m ≤ m + 1101 by omega)).er⟩
theorem Room.spoilF {s : FS} {m : Nat} (h : Room s (m + 1101)) (a : Int) (zs : List Int) : Room (s.spoilF a zs).1 m := by
  have h' := h.less (show m ≤ m + 1101 by omega)
  unfold FS.spoilF
  split
  · exact ⟨h'.st, h'.er⟩
  · exact h'

set_option maxRecDepth 100000 in
theorem rfreadc_any (b gb N capb : Nat) (zs : List Int) (v1 v4 : Value) (x2 x3 : Int) (a m : Int) (w : World) (hf : Blk w b [.slice (some ⟨gb, 0, none⟩) N capb, v1, .int .i64 x2, .int .i64 x3, v4, .bool false] 51) (hb : Bs w (some ⟨gb, 0, none⟩) N capb zs) (hN : N ≤ 262144) :
    Calls Try.prog 78 #[.pointer (some ⟨b, 0, none⟩), .int .i64 a, .int .i64 m] w (ReadTold w (if withinB a m N = true then ((zs.drop a.toNat).take m.toNat, 0) else ([], 2))) := by
  have WI := Lib.hid (rfwithin_any a m N (by omega))
  have c0 := hf.cellD 0 _ rfl
  have c5 := hf.cellD 5 _ rfl
  have hcap := hb.le
  have hcmx := hb.max
  have HB := Lib.hid hb
  clear hf hb
  cases hw : withinB a m N with
  | false =>
    rw [hw] at WI
    rw [if_neg (by decide)]
    clear hw
    go_enter Try.func78, Try.ntmps78
    go_wp2_with fail
    refine (WI.out _).mono ?_
    rintro e w' ⟨rfl, rfl⟩
    go_wp2
    go_ret2
    exact ⟨_, rfl, Own.nil _ _, Keeps.refl _ _⟩
  | true =>
    rw [hw] at WI
    rw [if_pos rfl]
    obtain ⟨i, j, rfl, rfl, hij⟩ := within_nat hw
    simp only [Int.toNat_natCast]
    clear hw
    have hsub : i + j - i = j := by omega
    by_cases hc : capb = i
    · obtain rfl : j = 0 := by omega
      subst hc
      go_enter Try.func78, Try.ntmps78
      go_wp2_with fail
      refine (WI.out _).mono ?_
      rintro e w' ⟨rfl, rfl⟩
      go_wp2_with (at_builtin; refine Hid.out ?_)
      refine Lib.hid ?_
      refine wpList_append_bs (Own.nil _ w.heap.size) (Bs.empty w ⟨gb, 0, none⟩ 0 (by omega)) (by simp) (Nat.le_refl _) rfl rfl rfl rfl rfl ?_
      intro v3 w3 ho3 hk3
      rw [List.nil_append] at ho3
      have O3 := Lib.hid ho3
      have K3 : Hid (Keeps None w w3) := hk3.mono (fun i hi e => by simp [Value.ownBlock] at e)
      clear ho3 hk3
      go_wp2
      go_ret2
      exact ⟨_, rfl, O3.out, K3.out⟩
    · have hd := Bs.take (k := j) (HB.out.drop (k := i) (by omega)) (by omega)
      rw [Nat.zero_add] at hd
      have DB := Lib.hid hd
      clear hd
      go_enter Try.func78, Try.ntmps78
      go_wp2_with fail
      refine (WI.out _).mono ?_
      rintro e w' ⟨rfl, rfl⟩
      go_wp2_with (at_builtin; refine Hid.out ?_)
      refine Lib.hid ?_
      rw [hsub]
      refine wpList_append_bs (Own.nil _ w.heap.size) DB.out (by simp; omega) (Nat.le_refl _) rfl rfl rfl rfl rfl ?_
      intro v3 w3 ho3 hk3
      rw [List.nil_append] at ho3
      have O3 := Lib.hid ho3
      have K3 : Hid (Keeps None w w3) := hk3.mono (fun i hi e => by simp [Value.ownBlock] at e)
      clear ho3 hk3
      go_wp2
      go_ret2
      exact ⟨_, rfl, O3.out, K3.out⟩
end Go.Proofs.Ytngofnlhbhfigaa
