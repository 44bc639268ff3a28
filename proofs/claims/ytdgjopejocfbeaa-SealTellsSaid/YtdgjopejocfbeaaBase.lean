
/- Small words on memory that all walks of this seat use: a block known whole, and which blocks a call may have changed. -/
import Derived.Test.YtdgjopejocfbeaaRows
import Derived.WalkKit
import Derived.WalkSpells
import Derived.WalkLawsBesides
import Derived.Deep.QuietTactic
import Derived.BigQuiet
import Derived.Lib.Hide
import Derived.Deep.Light
namespace Go.Proofs.Ytdgjopejocfbeaa
open Go.RowKit

theorem ret_int {k : IntKind} {a b : Int} (h : a = b) : Ending.returned (.int k a) = .returned (.int k b) := by rw [h]
theorem ret_bool {a b : Bool} (h : a = b) : Ending.returned (.bool a) = .returned (.bool b) := by rw [h]
theorem val_int {k : IntKind} {a b : Int} (h : a = b) : Value.int k a = .int k b := by rw [h]

/-- Block b holds just these cells. -/
def Blk (w : World) (b : Nat) (c : List Value) (T : TypeId) : Prop := w.heap[b]? = some (.cells c.toArray T (0, 0))
theorem Blk.cell {w : World} {b : Nat} {c : List Value} {T : TypeId} (h : Blk w b c T) (i : Nat) : w.cell? ⟨b, i, none⟩ = c[i]? := by
  unfold Blk at h; simp [World.cell?, h]
theorem Blk.cellD {w : World} {b : Nat} {c : List Value} {T : TypeId} (h : Blk w b c T) (i : Nat) (v : Value) (hi : c[i]? = some v) : w.cell? ⟨b, i, none⟩ = some v := by
  rw [h.cell, hi]
theorem Blk.frozen {w : World} {b : Nat} {c : List Value} {T : TypeId} (h : Blk w b c T) (i : Nat) : w.frozen? ⟨b, i, none⟩ = false := by
  unfold Blk at h; simp [World.frozen?, h]
theorem Blk.lt {w : World} {b : Nat} {c : List Value} {T : TypeId} (h : Blk w b c T) : b < w.heap.size := (Array.getElem?_eq_some_iff.1 h).1
theorem Blk.same {w : World} {b : Nat} {c c' : List Value} {T T' : TypeId} (h : Blk w b c T) (h' : Blk w b c' T') : c = c' := by
  unfold Blk at h h'; rw [h] at h'; simpa using (Obj.cells.inj (Option.some.inj h')).1
theorem Blk.drewN {w : World} {b : Nat} {c : List Value} {T : TypeId} (h : Blk w b c T) (n : Nat) : Blk (w.drewN n) b c T := h
theorem Blk.drew {w : World} {b : Nat} {c : List Value} {T : TypeId} (h : Blk w b c T) : Blk w.drew b c T := h
theorem Blk.new (w : World) (c : List Value) (T : TypeId) : Blk (w.alloc (.cells c.toArray T)) w.heap.size c T := by
  show (w.heap.push _)[_]? = _
  simp
theorem Blk.alloc {w : World} {b : Nat} {c : List Value} {T : TypeId} (h : Blk w b c T) (o : Obj) : Blk (w.alloc o) b c T := by
  have hlt := h.lt
  unfold Blk at h ⊢; rw [Below.heap_alloc _ _ _ hlt]; exact h
theorem Blk.set {w : World} {b : Nat} {c : List Value} {T : TypeId} (h : Blk w b c T) (i : Nat) (v : Value) : Blk (w.setCell ⟨b, i, none⟩ v) b (c.set i v) T := by
  unfold Blk at h ⊢; simp [World.setCell, Array.getElem?_modify, h]
theorem Blk.setOther {w : World} {b : Nat} {c : List Value} {T : TypeId} (h : Blk w b c T) (a : Addr) (v : Value) (hne : b ≠ a.block) : Blk (w.setCell a v) b c T := by
  unfold Blk at h ⊢; rw [Below.heap_setCell _ _ _ _ hne]; exact h

/-- From w to w' only blocks in S may have changed (and new ones were laid). -/
structure Keeps (S : Nat → Prop) (w w' : World) : Prop where
  os : w'.os = w.os
  tape : w'.tape = w.tape
  output : w'.output = w.output
  size : w.heap.size ≤ w'.heap.size
  block : ∀ k, k < w.heap.size → ¬ S k → w'.heap[k]? = w.heap[k]?
theorem Keeps.refl (S : Nat → Prop) (w : World) : Keeps S w w := ⟨rfl, rfl, rfl, Nat.le_refl _, fun _ _ _ => rfl⟩
theorem Keeps.trans {S S' T : Nat → Prop} {a b c : World} (h : Keeps S a b) (k : Keeps S' b c) (h1 : ∀ i, S i → T i) (h2 : ∀ i, i < a.heap.size → S' i → T i) : Keeps T a c :=
  ⟨k.os.trans h.os, k.tape.trans h.tape, k.output.trans h.output, Nat.le_trans h.size k.size, fun i hi hn =>
    (k.block i (Nat.lt_of_lt_of_le hi h.size) (fun e => hn (h2 i hi e))).trans (h.block i hi (fun e => hn (h1 i e)))⟩
theorem Keeps.mono {S T : Nat → Prop} {a b : World} (h : Keeps S a b) (h1 : ∀ i, i < a.heap.size → S i → T i) : Keeps T a b :=
  ⟨h.os, h.tape, h.output, h.size, fun i hi hn => h.block i hi (fun e => hn (h1 i hi e))⟩
theorem Keeps.drewN {S : Nat → Prop} {a b : World} (h : Keeps S a b) (n : Nat) : Keeps S a (b.drewN n) := ⟨h.os, h.tape, h.output, h.size, h.block⟩
theorem Keeps.drew {S : Nat → Prop} {a b : World} (h : Keeps S a b) : Keeps S a b.drew := ⟨h.os, h.tape, h.output, h.size, h.block⟩
theorem Keeps.ofDrewN {S : Nat → Prop} {a b : World} {n : Nat} (h : Keeps S (a.drewN n) b) : Keeps S a b := ⟨h.os, h.tape, h.output, h.size, h.block⟩
theorem Keeps.alloc {S : Nat → Prop} {a b : World} (h : Keeps S a b) (o : Obj) : Keeps S a (b.alloc o) :=
  ⟨h.os, h.tape, h.output, Nat.le_trans h.size (by simp), fun i hi hn => (Below.heap_alloc _ _ _ (Nat.lt_of_lt_of_le hi h.size)).trans (h.block i hi hn)⟩
theorem Keeps.setCell {S : Nat → Prop} {a b : World} (h : Keeps S a b) (p : Addr) (v : Value) (hp : p.block < a.heap.size → S p.block) : Keeps S a (b.setCell p v) :=
  ⟨h.os, h.tape, h.output, by simpa using h.size, fun i hi hn => (Below.heap_setCell _ _ _ _ (fun e => hn (by subst e; exact hp hi))).trans (h.block i hi hn)⟩
theorem Keeps.put {b : Nat} {a c : World} (h : Keeps (fun k => k = b) a c) (i : Nat) (v : Value) : Keeps (fun k => k = b) a (c.setCell ⟨b, i, none⟩ v) := h.setCell _ _ (fun _ => rfl)
theorem Keeps.self (b : Nat) (w : World) : Keeps (fun k => k = b) w w := Keeps.refl _ _
theorem Keeps.link {b : Nat} {x y z : World} (h : Keeps (fun k => k = b) x y) (k : Keeps (fun k => k = b) y z) : Keeps (fun k => k = b) x z := h.trans k (fun _ h => h) (fun _ _ h => h)
theorem Keeps.start {B b : Nat} {x y z : World} (h : Keeps (fun k => B ≤ k) x y) (k : Keeps (fun k => k = b) y z) (hb : B ≤ b) : Keeps (fun k => B ≤ k) x z := h.trans k (fun _ h => h) (fun _ _ e => by subst e; exact hb)
theorem Keeps.blk {S : Nat → Prop} {a b : World} (h : Keeps S a b) {k : Nat} {c : List Value} {T : TypeId} (hb : Blk a k c T) (hn : ¬ S k) : Blk b k c T := by
  have hlt := hb.lt
  unfold Blk at hb ⊢; rw [h.block k hlt hn]; exact hb
theorem Blk.keepsNe {b x : Nat} {a w : World} {c : List Value} {T : TypeId} (h : Blk a x c T) (k : Keeps (fun k => k = b) a w) (hn : ¬ x = b) : Blk w x c T := k.blk h hn
theorem Keeps.cell {S : Nat → Prop} {a b : World} (h : Keeps S a b) {p : Addr} (hlt : p.block < a.heap.size) (hn : ¬ S p.block) : b.cell? p = a.cell? p := World.cell?_of_block (h.block _ hlt hn)
theorem Keeps.below {S : Nat → Prop} {a b : World} (h : Keeps S a b) (hn : ∀ k, k < a.heap.size → ¬ S k) : Below a.heap.size a b :=
  ⟨h.os, h.tape, h.output, h.size, fun k hk => h.block k hk (hn k hk)⟩
theorem Keeps.grown {S : Nat → Prop} {a b c : World} {row : Option Nat} (h : Keeps S a b) (hg : b.grownBy c row) (hr : ∀ k, row = some k → k < a.heap.size → S k) : Keeps S a c :=
  ⟨hg.os.trans h.os, hg.tape.trans h.tape, hg.output.trans h.output, Nat.le_trans h.size hg.size, fun i hi hn =>
    (hg.block i (Nat.lt_of_lt_of_le hi h.size) (fun e => hn (hr i e.symm hi))).trans (h.block i hi hn)⟩
theorem below_keeps {S : Nat → Prop} {W a b : World} (h : Below W.heap.size W a) (k : Keeps S a b) (hS : ∀ i, S i → W.heap.size ≤ i) : Below W.heap.size W b :=
  h.trans ⟨k.os, k.tape, k.output, k.size, fun i hi => k.block i (Nat.lt_of_lt_of_le hi h.size) (fun e => by have := hS i e; omega)⟩
theorem below_drewN {B : Nat} {W a : World} (h : Below B W a) (n : Nat) : Below B W (a.drewN n) := ⟨h.os, h.tape, h.output, h.size, h.block⟩
def None : Nat → Prop := fun _ => False
theorem Keeps.ofNone {S : Nat → Prop} {a b : World} (h : Keeps None a b) : Keeps S a b := h.mono fun _ _ e => e.elim

/-- make([]T, n), n known only as a number: the value, and the world with one new block. -/
theorem run_make_blk {P : Program} (t e : TypeId) (z : Value) (bytes : Nat) (ht : P.underlying t = some (.slice e))
    (hinfo : (P.info? e).map (fun i => (i.zero, i.size, i.bytes)) = some (some z, 1, bytes)) (hz : z.cells = #[z]) (kl kc : IntKind) (L C : Int) (n : Nat) (hL : L = n) (hC : C = n) (hb : bytes * n ≤ 281474976710656) (hm : n ≤ 9223372036854775807) (w : World) :
    (Instr.makeSlice t (.int kl L) (.int kc C)).run P w = .ok (.slice (some ⟨w.heap.size, 0, none⟩) n n) (w.alloc (.cells (List.replicate n z).toArray e)) := by
  obtain ⟨i, hi, hz0, hz1, hz2⟩ := info_parts hinfo
  subst hL hC
  have hb' : (i.bytes : Int) * (n : Int) ≤ 281474976710656 := by
    rw [hz2]
    have h : ((bytes * n : Nat) : Int) ≤ 281474976710656 := by omega
    rwa [Int.natCast_mul] at h
  have hr := run_make (P := P) w t e i z ht hi hz0 kl kc n n (by omega) (Int.le_refl _) hb' (by omega)
  rw [hr, hz, hz1]
  have : madeCells #[z] (n * 1) = (List.replicate n z).toArray := by
    rw [Nat.mul_one]; apply Array.ext'; simpa using toList_madeCells_one z n
  simp only [Int.toNat_natCast, this]

/-- A built-in append of which the run is known. -/
theorem wpList_append_run {P : Program} {ops : Array Oper} {rest : List Oper} {o : Oper} {a : Act} {w w' : World} {Q : Exit → Act → World → Prop} {s x : Operand} {t ty : TypeId} {v1 v2 v' : Value}
    (hr : (Builtin.append_ #[t, t] ty #[v1, v2]).run P w = .ok v' w') (hg : o.guard = none) (hty : o.type = ty) (ho : o.op = .call { callee := .builtin .append, args := #[s, x], argTypes := #[t, t] }) (hs : a.eval s = v1) (hx : a.eval x = v2)
    (h : wpList P ops Q rest (a.put o.dst v') w') : wpList P ops Q (o :: rest) a w := by
  refine wpList_plain hg fun K hK => ?_
  subst hty
  unfold Oper.wp execOp
  simp only [ho, resolve, invoke, builtin, Sem.run_bind, Sem.run_pure, Result.andThen_ok, List.map_toArray, List.map_cons, List.map_nil, hs, hx, hr]
  exact hK _ _ h

theorem getElem?_replicate_lt {α : Type} {n i : Nat} {a : α} (h : i < n) : (List.replicate n a)[i]? = some a := by simp [h]
theorem map_get {α β : Type} {f : α → β} {l : List α} {i : Nat} (h : i < l.length) : (l.map f)[i]? = some (f l[i]) := by simp [h]
theorem getD_get {α : Type} {l : List α} {i : Nat} (d : α) (h : i < l.length) : l.getD i d = l[i] := by simp [List.getD, h]
theorem getD_mem {α : Type} {l : List α} {i : Nat} (d : α) (h : i < l.length) : l.getD i d ∈ l := by rw [getD_get d h]; exact List.getElem_mem _
theorem map_getD {α β : Type} {f : α → β} {l : List α} {i : Nat} (d : α) (h : i < l.length) : (l.map f)[i]? = some (f (l.getD i d)) := by rw [getD_get d h, map_get h]
end Go.Proofs.Ytdgjopejocfbeaa
