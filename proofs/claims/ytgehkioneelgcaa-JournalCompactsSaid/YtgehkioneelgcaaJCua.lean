/- Texts put together: Base, Mix, Bytes, Nor, Nor2, NorOrder, NorTwice, Bytes2, BytesC, Fl, Bits2, NorRef, NorRef2, FlMem. -/
import Derived.Test.YtgehkioneelgcaaRows
import Derived.WalkKit
import Derived.WalkSpells
import Derived.WalkLawsBesides
import Derived.Deep.QuietTactic
import Derived.BigQuiet
import Derived.Lib.Hide
import Derived.Deep.Light
import Derived.StillTail
import Derived.Laws.CopyOwn
import Derived.Laws.BitsAllLaws

/- Small words on memory that all walks of this seat use: a block known whole, and which blocks a call may have changed. -/
namespace Go.Proofs.Ytgehkioneelgcaa
open Go.RowKit

theorem ret_int {k : IntKind} {a b : Int} (h : a = b) : Ending.returned (.int k a) = .returned (.int k b) := by rw [h]
theorem ret_bool {a b : Bool} (h : a = b) : Ending.returned (.bool a) = .returned (.bool b) := by rw [h]
theorem val_int {k : IntKind} {a b : Int} (h : a = b) : Value.int k a = .int k b := by rw [h]

/-- Block b holds just these cells. -/
def Blk (w : World) (b : Nat) (c : List Value) (T : TypeId) : Prop := w.heap[b]? = some (.cells c.toArray T (0, 0))
theorem Blk.cell {w : World} {b : Nat} {c : List Value} {T : TypeId} (h : Blk w b c T) (i : Nat) : w.cell? ⟨b, i, none⟩ = c[i]? := by
  unfold Blk at h; simp [World.cell?, h]
theorem Blk.cellD {w : World} {b : Nat} {c : List Value} {T : TypeId} (h : Blk w b c T) (i : Nat) (v : Value) (hi : c[i]? = some v) : w.cell? ⟨b, i, none⟩ = some v := by
  rw [h.cell, hi]
theorem Blk.frozen {w : World} {b : Nat} {c : List Value} {T : TypeId} (h : Blk w b c T) (i : Nat) : w.frozen? ⟨b, i, none⟩ = false := by
  unfold Blk at h; simp [World.frozen?, h]
theorem Blk.lt {w : World} {b : Nat} {c : List Value} {T : TypeId} (h : Blk w b c T) : b < w.heap.size := (Array.getElem?_eq_some_iff.1 h).1
theorem Blk.same {w : World} {b : Nat} {c c' : List Value} {T T' : TypeId} (h : Blk w b c T) (h' : Blk w b c' T') : c = c' := by
  unfold Blk at h h'; rw [h] at h'; simpa using (Obj.cells.inj (Option.some.inj h')).1
theorem Blk.drewN {w : World} {b : Nat} {c : List Value} {T : TypeId} (h : Blk w b c T) (n : Nat) : Blk (w.drewN n) b c T := h
theorem Blk.drew {w : World} {b : Nat} {c : List Value} {T : TypeId} (h : Blk w b c T) : Blk w.drew b c T := h
theorem Blk.new (w : World) (c : List Value) (T : TypeId) : Blk (w.alloc (.cells c.toArray T)) w.heap.size c T := by
  show (w.heap.push _)[_]? = _
  simp
theorem Blk.alloc {w : World} {b : Nat} {c : List Value} {T : TypeId} (h : Blk w b c T) (o : Obj) : Blk (w.alloc o) b c T := by
  have hlt := h.lt
  unfold Blk at h ⊢; rw [Below.heap_alloc _ _ _ hlt]; exact h
theorem Blk.set {w : World} {b : Nat} {c : List Value} {T : TypeId} (h : Blk w b c T) (i : Nat) (v : Value) : Blk (w.setCell ⟨b, i, none⟩ v) b (c.set i v) T := by
  unfold Blk at h ⊢; simp [World.setCell, Array.getElem?_modify, h]
theorem Blk.setOther {w : World} {b : Nat} {c : List Value} {T : TypeId} (h : Blk w b c T) (a : Addr) (v : Value) (hne : b ≠ a.block) : Blk (w.setCell a v) b c T := by
  unfold Blk at h ⊢; rw [Below.heap_setCell _ _ _ _ hne]; exact h

/-- From w to w' only blocks in S may have changed (and new ones were laid). -/
structure Keeps (S : Nat → Prop) (w w' : World) : Prop where
  os : w'.os = w.os
  tape : w'.tape = w.tape
  output : w'.output = w.output
  size : w.heap.size ≤ w'.heap.size
  block : ∀ k, k < w.heap.size → ¬ S k → w'.heap[k]? = w.heap[k]?
theorem Keeps.refl (S : Nat → Prop) (w : World) : Keeps S w w := ⟨rfl, rfl, rfl, Nat.le_refl _, fun _ _ _ => rfl⟩
theorem Keeps.trans {S S' T : Nat → Prop} {a b c : World} (h : Keeps S a b) (k : Keeps S' b c) (h1 : ∀ i, S i → T i) (h2 : ∀ i, i < a.heap.size → S' i → T i) : Keeps T a c :=
  ⟨k.os.trans h.os, k.tape.trans h.tape, k.output.trans h.output, Nat.le_trans h.size k.size, fun i hi hn =>
    (k.block i (Nat.lt_of_lt_of_le hi h.size) (fun e => hn (h2 i hi e))).trans (h.block i hi (fun e => hn (h1 i e)))⟩
theorem Keeps.mono {S T : Nat → Prop} {a b : World} (h : Keeps S a b) (h1 : ∀ i, i < a.heap.size → S i → T i) : Keeps T a b :=
  ⟨h.os, h.tape, h.output, h.size, fun i hi hn => h.block i hi (fun e => hn (h1 i hi e))⟩
theorem Keeps.drewN {S : Nat → Prop} {a b : World} (h : Keeps S a b) (n : Nat) : Keeps S a (b.drewN n) := ⟨h.os, h.tape, h.output, h.size, h.block⟩
theorem Keeps.drew {S : Nat → Prop} {a b : World} (h : Keeps S a b) : Keeps S a b.drew := ⟨h.os, h.tape, h.output, h.size, h.block⟩
theorem Keeps.ofDrewN {S : Nat → Prop} {a b : World} {n : Nat} (h : Keeps S (a.drewN n) b) : Keeps S a b := ⟨h.os, h.tape, h.output, h.size, h.block⟩
theorem Keeps.alloc {S : Nat → Prop} {a b : World} (h : Keeps S a b) (o : Obj) : Keeps S a (b.alloc o) :=
  ⟨h.os, h.tape, h.output, Nat.le_trans h.size (by simp), fun i hi hn => (Below.heap_alloc _ _ _ (Nat.lt_of_lt_of_le hi h.size)).trans (h.block i hi hn)⟩
theorem Keeps.setCell {S : Nat → Prop} {a b : World} (h : Keeps S a b) (p : Addr) (v : Value) (hp : p.block < a.heap.size → S p.block) : Keeps S a (b.setCell p v) :=
  ⟨h.os, h.tape, h.output, by simpa using h.size, fun i hi hn => (Below.heap_setCell _ _ _ _ (fun e => hn (by subst e; exact hp hi))).trans (h.block i hi hn)⟩
theorem Keeps.put {b : Nat} {a c : World} (h : Keeps (fun k => k = b) a c) (i : Nat) (v : Value) : Keeps (fun k => k = b) a (c.setCell ⟨b, i, none⟩ v) := h.setCell _ _ (fun _ => rfl)
theorem Keeps.self (b : Nat) (w : World) : Keeps (fun k => k = b) w w := Keeps.refl _ _
theorem Keeps.link {b : Nat} {x y z : World} (h : Keeps (fun k => k = b) x y) (k : Keeps (fun k => k = b) y z) : Keeps (fun k => k = b) x z := h.trans k (fun _ h => h) (fun _ _ h => h)
theorem Keeps.start {B b : Nat} {x y z : World} (h : Keeps (fun k => B ≤ k) x y) (k : Keeps (fun k => k = b) y z) (hb : B ≤ b) : Keeps (fun k => B ≤ k) x z := h.trans k (fun _ h => h) (fun _ _ e => by subst e; exact hb)
theorem Keeps.blk {S : Nat → Prop} {a b : World} (h : Keeps S a b) {k : Nat} {c : List Value} {T : TypeId} (hb : Blk a k c T) (hn : ¬ S k) : Blk b k c T := by
  have hlt := hb.lt
  unfold Blk at hb ⊢; rw [h.block k hlt hn]; exact hb
theorem Blk.keepsNe {b x : Nat} {a w : World} {c : List Value} {T : TypeId} (h : Blk a x c T) (k : Keeps (fun k => k = b) a w) (hn : ¬ x = b) : Blk w x c T := k.blk h hn
theorem Keeps.cell {S : Nat → Prop} {a b : World} (h : Keeps S a b) {p : Addr} (hlt : p.block < a.heap.size) (hn : ¬ S p.block) : b.cell? p = a.cell? p := World.cell?_of_block (h.block _ hlt hn)
theorem Keeps.below {S : Nat → Prop} {a b : World} (h : Keeps S a b) (hn : ∀ k, k < a.heap.size → ¬ S k) : Below a.heap.size a b :=
  ⟨h.os, h.tape, h.output, h.size, fun k hk => h.block k hk (hn k hk)⟩
theorem Keeps.grown {S : Nat → Prop} {a b c : World} {row : Option Nat} (h : Keeps S a b) (hg : b.grownBy c row) (hr : ∀ k, row = some k → k < a.heap.size → S k) : Keeps S a c :=
  ⟨hg.os.trans h.os, hg.tape.trans h.tape, hg.output.trans h.output, Nat.le_trans h.size hg.size, fun i hi hn =>
    (hg.block i (Nat.lt_of_lt_of_le hi h.size) (fun e => hn (hr i e.symm hi))).trans (h.block i hi hn)⟩
theorem below_keeps {S : Nat → Prop} {W a b : World} (h : Below W.heap.size W a) (k : Keeps S a b) (hS : ∀ i, S i → W.heap.size ≤ i) : Below W.heap.size W b :=
  h.trans ⟨k.os, k.tape, k.output, k.size, fun i hi => k.block i (Nat.lt_of_lt_of_le hi h.size) (fun e => by have := hS i e; omega)⟩
theorem below_drewN {B : Nat} {W a : World} (h : Below B W a) (n : Nat) : Below B W (a.drewN n) := ⟨h.os, h.tape, h.output, h.size, h.block⟩
def None : Nat → Prop := fun _ => False
theorem Keeps.ofNone {S : Nat → Prop} {a b : World} (h : Keeps None a b) : Keeps S a b := h.mono fun _ _ e => e.elim

/-- make([]T, n), n known only as a number: the value, and the world with one new block. -/
theorem run_make_blk {P : Program} (t e : TypeId) (z : Value) (bytes : Nat) (ht : P.underlying t = some (.slice e))
    (hinfo : (P.info? e).map (fun i => (i.zero, i.size, i.bytes)) = some (some z, 1, bytes)) (hz : z.cells = #[z]) (kl kc : IntKind) (L C : Int) (n : Nat) (hL : L = n) (hC : C = n) (hb : bytes * n ≤ 281474976710656) (hm : n ≤ 9223372036854775807) (w : World) :
    (Instr.makeSlice t (.int kl L) (.int kc C)).run P w = .ok (.slice (some ⟨w.heap.size, 0, none⟩) n n) (w.alloc (.cells (List.replicate n z).toArray e)) := by
  obtain ⟨i, hi, hz0, hz1, hz2⟩ := info_parts hinfo
  subst hL hC
  have hb' : (i.bytes : Int) * (n : Int) ≤ 281474976710656 := by
    rw [hz2]
    have h : ((bytes * n : Nat) : Int) ≤ 281474976710656 := by omega
    rwa [Int.natCast_mul] at h
  have hr := run_make (P := P) w t e i z ht hi hz0 kl kc n n (by omega) (Int.le_refl _) hb' (by omega)
  rw [hr, hz, hz1]
  have : madeCells #[z] (n * 1) = (List.replicate n z).toArray := by
    rw [Nat.mul_one]; apply Array.ext'; simpa using toList_madeCells_one z n
  simp only [Int.toNat_natCast, this]

/-- A built-in append of which the run is known. -/
theorem wpList_append_run {P : Program} {ops : Array Oper} {rest : List Oper} {o : Oper} {a : Act} {w w' : World} {Q : Exit → Act → World → Prop} {s x : Operand} {t ty : TypeId} {v1 v2 v' : Value}
    (hr : (Builtin.append_ #[t, t] ty #[v1, v2]).run P w = .ok v' w') (hg : o.guard = none) (hty : o.type = ty) (ho : o.op = .call { callee := .builtin .append, args := #[s, x], argTypes := #[t, t] }) (hs : a.eval s = v1) (hx : a.eval x = v2)
    (h : wpList P ops Q rest (a.put o.dst v') w') : wpList P ops Q (o :: rest) a w := by
  refine wpList_plain hg fun K hK => ?_
  subst hty
  unfold Oper.wp execOp
  simp only [ho, resolve, invoke, builtin, Sem.run_bind, Sem.run_pure, Result.andThen_ok, List.map_toArray, List.map_cons, List.map_nil, hs, hx, hr]
  exact hK _ _ h

theorem getElem?_replicate_lt {α : Type} {n i : Nat} {a : α} (h : i < n) : (List.replicate n a)[i]? = some a := by simp [h]
theorem map_get {α β : Type} {f : α → β} {l : List α} {i : Nat} (h : i < l.length) : (l.map f)[i]? = some (f l[i]) := by simp [h]
theorem getD_get {α : Type} {l : List α} {i : Nat} (d : α) (h : i < l.length) : l.getD i d = l[i] := by simp [List.getD, h]
theorem getD_mem {α : Type} {l : List α} {i : Nat} (d : α) (h : i < l.length) : l.getD i d ∈ l := by rw [getD_get d h]; exact List.getElem_mem _
theorem map_getD {α β : Type} {f : α → β} {l : List α} {i : Nat} (d : α) (h : i < l.length) : (l.map f)[i]? = some (f (l.getD i d)) := by rw [getD_get d h, map_get h]
end Go.Proofs.Ytgehkioneelgcaa
/- A region that draws its order, in which a few operations act on memory in a forced order of their own and all others only compute or load what those do not change: one walk in the order of the text serves every order. -/
namespace Go.Proofs.Ytgehkioneelgcaa
open Go.RowKit

section Mix
variable {P : Program} {ops : Array Oper} {C : World → Prop} {Q : Exit → Act → World → Prop} {md : Region.Mode} {E : List Nat} {R : Act → World → Prop}

/-- An operation that only computes or loads. -/
def plainOp (o : Oper) : Bool :=
  match o.op with
  | .move _ | .assign _ | .pick .. | .load .. | .nilCheck _ | .binOp .. | .unOp .. | .convert .. | .slice .. | .fieldAddr .. | .field .. | .indexAddr .. | .index .. | .extract .. | .build .. => true
  | .call c => match c.callee with
    | .builtin b => match b with | .len | .cap | .max | .min => true | _ => false
    | _ => false
  | _ => false

theorem value_no_enter (s : Sem Value) (w : World) (f : FuncId) (args : Array Value) (w' : World) : ((do pure (Next.value (← s)) : Sem Next)).run P w ≠ .ok (.enter f args) w' := by
  simp only [Sem.run_bind, Sem.run_pure]
  cases s.run P w <;> simp [Result.andThen]

theorem plain_no_enter {o : Oper} (h : plainOp o = true) (ρ : Operand → Value) (w : World) (f : FuncId) (args : Array Value) (w' : World) : (execOp ρ o).run P w ≠ .ok (.enter f args) w' := by
  unfold plainOp at h
  unfold execOp
  cases ho : o.op <;> simp only [ho] at h ⊢ <;> first | exact value_no_enter _ _ _ _ _ | cases h | skip
  case move => simp
  case assign => simp
  case pick c x y =>
    simp only [Sem.run_bind, Sem.run_pure]
    cases (asBool (ρ c)).run P w <;> simp [Result.andThen]
  case nilCheck x =>
    have hp : (runtimePanic .nilDeref : Sem Next).run P w ≠ .ok (.enter f args) w' := by
      simp [runtimePanic, goPanic, program, Sem.run]
    split <;> try exact hp
    · split <;> try exact hp
      · simp only [Sem.run_bind]
        intro hh
        generalize (Sem.run P program w) = r at hh
        cases r with
        | halt _ _ => simp [Result.andThen] at hh
        | ok pr w1 =>
          simp only [Result.andThen_ok] at hh
          generalize (Sem.run P (nilAhead _ _ _ _) w1) = r2 at hh
          cases r2 with
          | halt _ _ => simp [Result.andThen] at hh
          | ok q w2 =>
            simp only [Result.andThen_ok] at hh
            split at hh <;> simp [unsupported, Sem.run, Result.andThen] at hh
      · simp
    · simp
  case call c =>
    cases hc : c.callee <;> simp only [hc] at h <;> try cases h
    case builtin b =>
      cases b <;> simp only [] at h <;> try cases h
      all_goals
        simp only [resolve, hc, Sem.run_bind, Sem.run_pure, Result.andThen_ok, invoke, builtin]
        generalize Sem.run P _ w = r
        cases r <;> simp [Result.andThen]

/-- No way out but the ordinary one. -/
def noExit : Exit → Act → World → Prop := fun _ _ _ => False

def descendB (md : Region.Mode) (ops : Array Oper) (i : Nat) : Nat → List Nat
  | 0 => []
  | n + 1 =>
    let d := descendB md ops i n
    if n == i || ((ops[n]?).map fun o => o.after.any fun e => Region.binds md e && d.contains e.on).getD false then n :: d else d

/-- Behind operation i an operation that only loads may still be to come. -/
def openB (md : Region.Mode) (ops : Array Oper) (E : List Nat) (i : Nat) : Bool :=
  (List.range ops.size).any fun j => !E.contains j && !(descendB md ops j ops.size).contains i

/-- The walk in the order of the text, over the numbers of the operations that are left. -/
def wpMixI (P : Program) (md : Region.Mode) (ops : Array Oper) (C : World → Prop) (E : List Nat) (R : Act → World → Prop) : List Nat → Act → World → Prop
  | [], a, w => R a w
  | i :: U, a, w =>
    match ops[i]? with
    | none => wpMixI P md ops C E R U a w
    | some o =>
      if Region.wanted o (yielded ops a.tmps) then
        if E.contains i then o.wp P a w (fun a' w' => (openB md ops E i = true → C w') ∧ wpMixI P md ops C E R U a' w') noExit
        else o.quiet P a C (fun a' => wpMixI P md ops C E R U a' w)
      else wpMixI P md ops C E R U (a.put o.dst undef) w

theorem wp_noExit {o : Oper} {a : Act} {w : World} {K : Act → World → Prop} (h : o.wp P a w K noExit) : o.wp P a w K Q := by
  unfold Oper.wp at *
  generalize (execOp a.eval o).run P w = r at *
  cases r with
  | ok n w' =>
    cases n <;> simp only [Oper.upon] at h ⊢ <;> try exact h
    exact Calls.mono h (fun e w'' he => by cases e <;> first | exact he | exact he.elim | exact (let ⟨_, _, hh⟩ := he; hh.elim))
  | halt x w' => cases x <;> simp only [Oper.upon] at h ⊢ <;> exact h.elim

/-- What operation o may leave of a frame. -/
def Leaves (o : Oper) (a a' : Act) : Prop := ∃ u ds, a' = ({ a with defers := ds } : Act).put o.dst u

theorem wp_some {o : Oper} {a : Act} {w : World} {K : Act → World → Prop} (h : o.wp P a w K noExit) : ∃ a' w', Leaves o a a' ∧ K a' w' := by
  unfold Oper.wp at h
  generalize (execOp a.eval o).run P w = r at h
  cases r with
  | ok n w' =>
    cases n <;> simp only [Oper.upon] at h <;> try exact h.elim
    case value v => exact ⟨_, _, ⟨v, a.defers, rfl⟩, h⟩
    case skip => exact ⟨_, _, ⟨undef, a.defers, rfl⟩, h⟩
    case defer d => exact ⟨_, _, ⟨undef, d :: a.defers, rfl⟩, h⟩
    case enter f args =>
      obtain ⟨e, w'', fr, hR, _⟩ := h []
      cases e with
      | returned v => exact ⟨_, _, ⟨v, a.defers, rfl⟩, hR⟩
      | panicked c => exact hR.elim
      | outgrown => obtain ⟨_, _, hh⟩ := hR; exact hh.elim
    case row row args =>
      obtain ⟨v, w'', hR, _⟩ := h default []
      exact ⟨_, _, ⟨v, a.defers, rfl⟩, hR⟩
  | halt x w' => cases x <;> simp only [Oper.upon] at h <;> exact h.elim

/-- The operation, with another operation's value put into its temporary first. -/
theorem wp_shift {o : Oper} {d : Option Tmp} {v : Value} {a : Act} {w : World} {K K' : Act → World → Prop} (hsel : ∀ cs b, o.op ≠ .select cs b)
    (h1 : ∀ t, d = some t → t ∉ o.looksAt ops) (h2 : ∀ t, d = some t → o.dst ≠ some t)
    (hK : ∀ a' w', Leaves o a a' → K a' w' → K' (a'.put d v) w') (h : o.wp P a w K Q) (hQ : ∀ e a a' w, Q e a w → Q e a' w) : o.wp P (a.put d v) w K' Q := by
  unfold Oper.wp at *
  rw [execOp_put o hsel a d v h1]
  have hc : ∀ u, (a.put o.dst u).put d v = (a.put d v).put o.dst u := fun u => (Act.put_comm a v u (fun t ht => h2 t ht)).symm
  generalize (execOp a.eval o).run P w = r at *
  cases r with
  | ok n w' =>
    cases n <;> simp only [Oper.upon] at h ⊢ <;> try exact h
    case value u => rw [← hc]; exact hK _ _ ⟨u, a.defers, rfl⟩ h
    case skip => rw [← hc]; exact hK _ _ ⟨undef, a.defers, rfl⟩ h
    case defer x =>
      have hh := hK _ _ ⟨undef, x :: a.defers, rfl⟩ h
      have e1 : ({ a.put d v with defers := x :: (a.put d v).defers } : Act).put o.dst undef = (({ a with defers := x :: a.defers } : Act).put o.dst undef).put d v := by
        rw [Act.put_defers]
        exact Act.put_comm _ v undef (fun t ht => h2 t ht)
      rw [e1]; exact hh
    case enter f args =>
      exact Calls.mono h (fun e w'' he => by
        cases e with
        | returned u => show K' _ _; rw [← hc]; exact hK _ _ ⟨u, a.defers, rfl⟩ he
        | panicked c => exact hQ _ _ _ _ he
        | outgrown => exact he)
    case row row args => exact Rows.mono h (fun u w'' he => by rw [← hc]; exact hK _ _ ⟨u, a.defers, rfl⟩ he)
  | halt x w' => cases x <;> simp only [Oper.upon] at h ⊢ <;> first | exact h | exact hQ _ _ _ _ h

theorem noExit_any : ∀ (e : Exit) (a a' : Act) (w : World), noExit e a w → noExit e a' w := fun _ _ _ _ h => h

theorem Leaves.eval {o p : Oper} {a a' : Act} (h : Leaves o a a') (hsel : ∀ cs b, p.op ≠ .select cs b) (h1 : ∀ t, o.dst = some t → t ∉ p.looksAt ops) :
    execOp a'.eval p = execOp a.eval p ∧ Region.wanted p (yielded ops a'.tmps) = Region.wanted p (yielded ops a.tmps) := by
  obtain ⟨u, ds, rfl⟩ := h
  refine ⟨?_, ?_⟩
  · rw [execOp_put p hsel ({ a with defers := ds } : Act) o.dst u h1]
    rfl
  · rw [wanted_put p ({ a with defers := ds } : Act) o.dst u h1]

theorem YieldsIn.of_leaves {o p : Oper} {a a' : Act} {v : Value} (h : Leaves p a a') (hsel : ∀ cs b, o.op ≠ .select cs b) (h1 : ∀ t, p.dst = some t → t ∉ o.looksAt ops) :
    YieldsIn P ops C o v a' ↔ YieldsIn P ops C o v a := by
  obtain ⟨e1, e2⟩ := h.eval (ops := ops) hsel h1
  exact ⟨fun hy => hy.of_same e1.symm e2.symm, fun hy => hy.of_same e1 e2⟩

/-- One value, as soon as there is a world of the class. -/
theorem YieldsIn.one {o : Oper} {a : Act} {v u : Value} {w : World} (hp : plainOp o = true) (hw : C w) (h : YieldsIn P ops C o v a) (k : YieldsIn P ops C o u a) : v = u := by
  rcases h with ⟨hn, h⟩ | ⟨hn, rfl⟩
  · rcases k with ⟨_, k⟩ | ⟨kn, _⟩
    · have h' := h w hw
      have k' := k w hw
      unfold Oper.quietAt at h' k'
      have hne := plain_no_enter (P := P) hp a.eval w
      generalize (execOp a.eval o).run P w = r at h' k' hne
      cases r with
      | halt _ _ => exact h'.elim
      | ok n w' =>
        cases n <;> simp only [Oper.quietUpon] at h' k' <;> try exact h'.elim
        case value x => exact h'.2.symm.trans k'.2
        case skip => exact h'.2.trans k'.2.symm
        case enter f args => exact absurd rfl (hne f args w')
    · rw [hn] at kn; cases kn
  · rcases k with ⟨kn, _⟩ | ⟨_, rfl⟩
    · rw [hn] at kn; cases kn
    · rfl

def selFree (ops : Array Oper) : Prop := ∀ (j : Nat) (o : Oper) cs b, ops[j]? = some o → o.op ≠ .select cs b

theorem mix_cons {i : Nat} {o : Oper} {U : List Nat} {a : Act} {w : World} (ho : ops[i]? = some o) :
    wpMixI P md ops C E R (i :: U) a w = (if Region.wanted o (yielded ops a.tmps) then
        if E.contains i then o.wp P a w (fun a' w' => (openB md ops E i = true → C w') ∧ wpMixI P md ops C E R U a' w') noExit
        else o.quiet P a C (fun a' => wpMixI P md ops C E R U a' w)
      else wpMixI P md ops C E R U (a.put o.dst undef) w) := by
  rw [wpMixI]; simp only [ho]

theorem mix_none {i : Nat} {U : List Nat} {a : Act} {w : World} (ho : ops[i]? = none) : wpMixI P md ops C E R (i :: U) a w = wpMixI P md ops C E R U a w := by
  rw [wpMixI]; simp only [ho]

/-- A loading operation may be taken first. -/
theorem mix_pickA (hsel : selFree ops) {i : Nat} {o : Oper} (ho : ops[i]? = some o) (hi : E.contains i = false) (hp : plainOp o = true) (post : List Nat) :
    ∀ (pre : List Nat) (a : Act) (w : World), (∀ p ∈ pre, ∀ op, ops[p]? = some op → op.apart ops o = true) → (∀ p ∈ pre, E.contains p = true → openB md ops E p = true) →
      C w → wpMixI P md ops C E R (pre ++ i :: post) a w → ∃ v, YieldsIn P ops C o v a ∧ wpMixI P md ops C E R (pre ++ post) (a.put o.dst v) w
  | [], a, w, _, _, _, h => by
    rw [List.nil_append, mix_cons ho, hi] at h
    by_cases hw : Region.wanted o (yielded ops a.tmps) = true
    · simp only [hw, if_true, Bool.false_eq_true, if_false] at h
      obtain ⟨v, h1, h2⟩ := h
      exact ⟨v, .inl ⟨hw, h1⟩, h2⟩
    · simp only [hw, Bool.false_eq_true, if_false] at h
      exact ⟨undef, .inr ⟨by simpa using hw, rfl⟩, h⟩
  | p :: pre, a, w, hap, hop, hC, h => by
    have hap' : ∀ q ∈ pre, ∀ op, ops[q]? = some op → op.apart ops o = true := fun q hq => hap q (List.mem_cons_of_mem _ hq)
    have hop' : ∀ q ∈ pre, E.contains q = true → openB md ops E q = true := fun q hq => hop q (List.mem_cons_of_mem _ hq)
    have IH := mix_pickA hsel ho hi hp post pre
    cases hop0 : ops[p]? with
    | none =>
      rw [List.cons_append, mix_none hop0] at h
      obtain ⟨v, h1, h2⟩ := IH a w hap' hop' hC h
      exact ⟨v, h1, by rw [List.cons_append, mix_none hop0]; exact h2⟩
    | some op =>
      obtain ⟨ap1, ap2, ap3⟩ := Oper.apart_spec (hap p List.mem_cons_self op hop0)
      have so : ∀ cs b, o.op ≠ .select cs b := fun cs b => hsel i o cs b ho
      have sp : ∀ cs b, op.op ≠ .select cs b := fun cs b => hsel p op cs b hop0
      rw [List.cons_append, mix_cons hop0] at h
      have hwv : ∀ v, Region.wanted op (yielded ops (a.put o.dst v).tmps) = Region.wanted op (yielded ops a.tmps) := fun v => wanted_put op a o.dst v ap3
      have ap2' : ∀ t, o.dst = some t → op.dst ≠ some t := fun t ht hh => ap2 t hh ht
      by_cases hw : Region.wanted op (yielded ops a.tmps) = true
      · simp only [hw, if_true] at h
        cases hE : E.contains p with
        | true =>
          simp only [hE, if_true] at h
          have hopen := hop p List.mem_cons_self hE
          obtain ⟨a1, w1, hl1, hc1, hr1⟩ := wp_some h
          obtain ⟨v, hy, _⟩ := IH a1 w1 hap' hop' (hc1 hopen) hr1
          have hyv := (YieldsIn.of_leaves (P := P) (C := C) hl1 so ap1).1 hy
          refine ⟨v, hyv, ?_⟩
          rw [List.cons_append, mix_cons hop0]
          simp only [hwv, hw, if_true, hE]
          refine wp_shift (ops := ops) sp ap3 ap2' (fun a' w' hl hk => ⟨hk.1, ?_⟩) h noExit_any
          obtain ⟨u, hyu, hru⟩ := IH a' w' hap' hop' (hk.1 hopen) hk.2
          have e : u = v := YieldsIn.one hp hC ((YieldsIn.of_leaves (P := P) (C := C) hl so ap1).1 hyu) hyv
          rw [← e]; exact hru
        | false =>
          simp only [hE, Bool.false_eq_true, if_false] at h
          obtain ⟨u, hu, hr⟩ := h
          obtain ⟨v, hy, hrv⟩ := IH _ w hap' hop' hC hr
          have hyv := (YieldsIn.of_leaves (P := P) (C := C) ⟨u, a.defers, rfl⟩ so ap1).1 hy
          refine ⟨v, hyv, ?_⟩
          rw [List.cons_append, mix_cons hop0]
          simp only [hwv, hw, if_true, hE, Bool.false_eq_true, if_false]
          refine ⟨u, fun w' hw' => ?_, ?_⟩
          · have := hu w' hw'
            unfold Oper.quietAt at *
            rwa [execOp_put op sp a o.dst v ap3]
          · rw [Act.put_comm a v u (fun t ht => ap2' t ht)]; exact hrv
      · simp only [hw, Bool.false_eq_true, if_false] at h
        obtain ⟨v, hy, hrv⟩ := IH _ w hap' hop' hC h
        have hyv := (YieldsIn.of_leaves (P := P) (C := C) ⟨undef, a.defers, rfl⟩ so ap1).1 hy
        refine ⟨v, hyv, ?_⟩
        rw [List.cons_append, mix_cons hop0]
        simp only [hwv, hw, Bool.false_eq_true, if_false]
        rw [Act.put_comm a v undef (fun t ht => ap2' t ht)]; exact hrv

/-- An operation on memory may be taken before loading operations that do not wait for it. -/
theorem mix_pickB (hsel : selFree ops) {i : Nat} {o : Oper} (ho : ops[i]? = some o) (hi : E.contains i = true) (post : List Nat) :
    ∀ (pre : List Nat) (a : Act) (w : World), (∀ p ∈ pre, ∀ op, ops[p]? = some op → op.apart ops o = true) → (∀ p ∈ pre, E.contains p = false) →
      wpMixI P md ops C E R (pre ++ i :: post) a w →
      (Region.wanted o (yielded ops a.tmps) = true ∧ o.wp P a w (fun a' w' => (openB md ops E i = true → C w') ∧ wpMixI P md ops C E R (pre ++ post) a' w') noExit) ∨
      (Region.wanted o (yielded ops a.tmps) = false ∧ wpMixI P md ops C E R (pre ++ post) (a.put o.dst undef) w)
  | [], a, w, _, _, h => by
    rw [List.nil_append, mix_cons ho, hi] at h
    by_cases hw : Region.wanted o (yielded ops a.tmps) = true
    · simp only [hw, if_true] at h
      exact .inl ⟨hw, h⟩
    · simp only [hw, Bool.false_eq_true, if_false] at h
      exact .inr ⟨by simpa using hw, h⟩
  | p :: pre, a, w, hap, hne, h => by
    have hap' : ∀ q ∈ pre, ∀ op, ops[q]? = some op → op.apart ops o = true := fun q hq => hap q (List.mem_cons_of_mem _ hq)
    have hne' : ∀ q ∈ pre, E.contains q = false := fun q hq => hne q (List.mem_cons_of_mem _ hq)
    have IH := mix_pickB hsel ho hi post pre
    cases hop0 : ops[p]? with
    | none =>
      rw [List.cons_append, mix_none hop0] at h
      simpa only [List.cons_append, mix_none hop0] using IH a w hap' hne' h
    | some op =>
      obtain ⟨ap1, ap2, ap3⟩ := Oper.apart_spec (hap p List.mem_cons_self op hop0)
      have so : ∀ cs b, o.op ≠ .select cs b := fun cs b => hsel i o cs b ho
      have sp : ∀ cs b, op.op ≠ .select cs b := fun cs b => hsel p op cs b hop0
      have hE := hne p List.mem_cons_self
      have ap2' : ∀ t, o.dst = some t → op.dst ≠ some t := fun t ht hh => ap2 t hh ht
      rw [List.cons_append, mix_cons hop0] at h
      -- the value u that p leaves, whatever it is
      have go : ∀ u, wpMixI P md ops C E R (pre ++ i :: post) (a.put op.dst u) w →
          (∀ a' w', (execOp a'.eval op = execOp a.eval op ∧ Region.wanted op (yielded ops a'.tmps) = Region.wanted op (yielded ops a.tmps)) → wpMixI P md ops C E R (pre ++ post) (a'.put op.dst u) w' → wpMixI P md ops C E R (p :: pre ++ post) a' w') →
          (Region.wanted o (yielded ops a.tmps) = true ∧ o.wp P a w (fun a' w' => (openB md ops E i = true → C w') ∧ wpMixI P md ops C E R (p :: pre ++ post) a' w') noExit) ∨
          (Region.wanted o (yielded ops a.tmps) = false ∧ wpMixI P md ops C E R (p :: pre ++ post) (a.put o.dst undef) w) := by
        intro u hu hback
        have hwo : Region.wanted o (yielded ops (a.put op.dst u).tmps) = Region.wanted o (yielded ops a.tmps) := wanted_put o a op.dst u ap1
        rcases IH _ w hap' hne' hu with ⟨h1, h2⟩ | ⟨h1, h2⟩
        · refine .inl ⟨by rw [← hwo]; exact h1, ?_⟩
          unfold Oper.wp at h2 ⊢
          rw [execOp_put o so a op.dst u ap1] at h2
          have hc : ∀ x, (a.put op.dst u).put o.dst x = (a.put o.dst x).put op.dst u := fun x => Act.put_comm a u x (fun t ht => ap2 t ht)
          have same : ∀ x ds, execOp (({ a with defers := ds } : Act).put o.dst x).eval op = execOp a.eval op ∧ Region.wanted op (yielded ops (({ a with defers := ds } : Act).put o.dst x).tmps) = Region.wanted op (yielded ops a.tmps) :=
            fun x ds => Leaves.eval (o := o) ⟨x, ds, rfl⟩ sp ap3
          generalize (execOp a.eval o).run P w = r at *
          cases r with
          | ok n w' =>
            cases n <;> simp only [Oper.upon] at h2 ⊢ <;> try exact h2
            case value x => rw [hc] at h2; exact ⟨h2.1, hback _ _ (same x a.defers) h2.2⟩
            case skip => rw [hc] at h2; exact ⟨h2.1, hback _ _ (same undef a.defers) h2.2⟩
            case defer x =>
              have e1 : ({ a.put op.dst u with defers := x :: (a.put op.dst u).defers } : Act).put o.dst undef = (({ a with defers := x :: a.defers } : Act).put o.dst undef).put op.dst u := by
                rw [Act.put_defers]
                exact Act.put_comm _ u undef (fun t ht => ap2 t ht)
              rw [e1] at h2
              exact ⟨h2.1, hback _ _ (same undef (x :: a.defers)) h2.2⟩
            case enter f args =>
              exact Calls.mono h2 (fun e w'' he => by
                cases e with
                | returned x =>
                  have he' : (openB md ops E i = true → C w'') ∧ wpMixI P md ops C E R (pre ++ post) ((a.put op.dst u).put o.dst x) w'' := he
                  rw [hc] at he'
                  exact ⟨he'.1, hback _ _ (same x a.defers) he'.2⟩
                | panicked c => exact he
                | outgrown => exact he)
            case row row args => exact Rows.mono h2 (fun x w'' he => by rw [hc] at he; exact ⟨he.1, hback _ _ (same x a.defers) he.2⟩)
          | halt x w' => cases x <;> simp only [Oper.upon] at h2 ⊢ <;> exact h2
        · refine .inr ⟨by rw [← hwo]; exact h1, hback _ _ (Leaves.eval (o := o) ⟨undef, a.defers, rfl⟩ sp ap3) ?_⟩
          rw [← Act.put_comm a u undef (fun t ht => ap2 t ht)]; exact h2
      by_cases hw : Region.wanted op (yielded ops a.tmps) = true
      · simp only [hw, if_true, hE, Bool.false_eq_true, if_false] at h
        obtain ⟨u, hu, hr⟩ := h
        refine go u hr fun a' w' hs hr' => ?_
        rw [List.cons_append, mix_cons hop0]
        simp only [hs.2, hw, if_true, hE, Bool.false_eq_true, if_false]
        refine ⟨u, fun w'' hw'' => ?_, hr'⟩
        have := hu w'' hw''
        unfold Oper.quietAt at *
        rwa [hs.1]
      · simp only [hw, Bool.false_eq_true, if_false] at h
        refine go undef h fun a' w' hs hr' => ?_
        rw [List.cons_append, mix_cons hop0]
        simp only [hs.2, hw, Bool.false_eq_true, if_false]
        exact hr'

def unlB (ops : Array Oper) (listed : Array Bool) : List Nat := (List.range ops.size).filter fun i => !listed.getD i true

/-- What the kernel reckons of the region: the text's order is allowed; operations that may be exchanged do not touch each other's temporaries; those on memory come one behind the other in every order. -/
def mixB (md : Region.Mode) (ops : Array Oper) (E : List Nat) : Bool :=
  Region.noSelect ops && (List.range ops.size).all fun i => match ops[i]? with
    | none => true
    | some o => o.after.all (fun e => !Region.binds md e || decide (e.on < i)) && (E.contains i || plainOp o) &&
      (List.range i).all fun p => match ops[p]? with
        | none => true
        | some op => (o.after.any (fun e => Region.binds md e && e.on == p) || op.apart ops o) &&
          (!(E.contains p && E.contains i) || (descendB md ops p ops.size).contains i)

structure MixOk (md : Region.Mode) (ops : Array Oper) (E : List Nat) : Prop where
  sel : selFree ops
  topo : ∀ i o, ops[i]? = some o → ∀ e ∈ o.after, Region.binds md e = true → e.on < i
  plain : ∀ i o, ops[i]? = some o → E.contains i = false → plainOp o = true
  apart : ∀ i o p op, ops[i]? = some o → ops[p]? = some op → p < i → (∃ e ∈ o.after, Region.binds md e = true ∧ e.on = p) ∨ op.apart ops o = true
  chain : ∀ i o p op, ops[i]? = some o → ops[p]? = some op → p < i → E.contains p = true → E.contains i = true → i ∈ descendB md ops p ops.size

theorem mixB_ok (h : mixB md ops E = true) : MixOk md ops E := by
  unfold mixB at h
  simp only [Bool.and_eq_true, List.all_eq_true, List.mem_range] at h
  obtain ⟨hs, h⟩ := h
  have lt : ∀ i o, ops[i]? = some o → i < ops.size := fun i o ho => (Array.getElem?_eq_some_iff.1 ho).1
  have get : ∀ i o, ops[i]? = some o → _ := fun i o ho => by
    have := h i (lt i o ho)
    simp only [ho, Bool.and_eq_true] at this
    exact this
  refine ⟨Region.noSelect_spec hs, ?_, ?_, ?_, ?_⟩
  · intro i o ho e he hb
    have := Array.all_eq_true'.1 (get i o ho).1.1 e he
    simp only [hb, Bool.not_true, Bool.false_or, decide_eq_true_eq] at this
    exact this
  · intro i o ho hE
    have := (get i o ho).1.2
    rwa [hE, Bool.false_or] at this
  · intro i o p op ho hp hlt
    have := List.all_eq_true.1 (get i o ho).2 p (List.mem_range.2 hlt)
    simp only [hp, Bool.and_eq_true, Bool.or_eq_true] at this
    rcases this.1 with h1 | h1
    · obtain ⟨e, he, hb⟩ := Array.any_eq_true'.1 h1
      simp only [Bool.and_eq_true, beq_iff_eq] at hb
      exact .inl ⟨e, he, hb⟩
    · exact .inr h1
  · intro i o p op ho hp hlt h1 h2
    have := List.all_eq_true.1 (get i o ho).2 p (List.mem_range.2 hlt)
    simp only [hp, Bool.and_eq_true] at this
    have h3 := this.2
    rw [h1, h2] at h3
    simpa using h3

theorem descend_ge (ht : ∀ i o, ops[i]? = some o → ∀ e ∈ o.after, Region.binds md e = true → e.on < i) (i : Nat) : ∀ n, ∀ j ∈ descendB md ops i n, i ≤ j
  | 0, j, h => by simp [descendB] at h
  | n + 1, j, h => by
    have IH := descend_ge ht i n
    unfold descendB at h
    simp only [] at h
    split at h
    · rename_i hc
      rcases List.mem_cons.1 h with rfl | h
      · simp only [Bool.or_eq_true, beq_iff_eq] at hc
        rcases hc with rfl | hc
        · exact Nat.le_refl _
        · cases ho : ops[j]? with
          | none => simp [ho] at hc
          | some o =>
            simp only [ho, Option.map_some, Option.getD_some] at hc
            obtain ⟨e, he, hb⟩ := Array.any_eq_true'.1 hc
            simp only [Bool.and_eq_true, List.contains_iff_mem] at hb
            have h1 := ht j o ho e he hb.1
            have h2 := IH _ hb.2
            omega
      · exact IH j h
    · exact IH j h

/-- What all orders have listed once j may come up. -/
theorem descend_listed {listed : Array Bool} (hcl : ∀ j oj, ops[j]? = some oj → listed.getD j false = true → ∀ e ∈ oj.after, Region.binds md e = true → listed.getD e.on false = true) (i : Nat) :
    ∀ n, ∀ j ∈ descendB md ops i n, (listed.getD j false = true → listed.getD i false = true) ∧ (j ≠ i → (∀ oj, ops[j]? = some oj → ∀ e ∈ oj.after, Region.binds md e = true → listed.getD e.on false = true) → listed.getD i false = true)
  | 0, j, h => by simp [descendB] at h
  | n + 1, j, h => by
    have IH := descend_listed hcl i n
    unfold descendB at h
    simp only [] at h
    split at h
    · rename_i hc
      rcases List.mem_cons.1 h with rfl | h
      · simp only [Bool.or_eq_true, beq_iff_eq] at hc
        have key : (∀ oj, ops[j]? = some oj → ∀ e ∈ oj.after, Region.binds md e = true → listed.getD e.on false = true) → j ≠ i → listed.getD i false = true := by
          intro hall hne
          rcases hc with hc | hc
          · exact absurd hc hne
          · cases ho : ops[j]? with
            | none => simp [ho] at hc
            | some o =>
              simp only [ho, Option.map_some, Option.getD_some] at hc
              obtain ⟨e, he, hb⟩ := Array.any_eq_true'.1 hc
              simp only [Bool.and_eq_true, List.contains_iff_mem] at hb
              exact (IH _ hb.2).1 (hall o ho e he hb.1)
        refine ⟨fun hl => ?_, fun hne hall => key hall hne⟩
        by_cases hji : j = i
        · rw [← hji]; exact hl
        · exact key (fun oj hoj e he hb => hcl j oj hoj hl e he hb) hji
      · exact IH j h
    · exact IH j h

theorem mem_unl {listed : Array Bool} {i : Nat} : i ∈ unlB ops listed ↔ i < ops.size ∧ listed.getD i true = false := by
  simp [unlB]

theorem wpOp_of_yields {i : Nat} {o : Oper} {v : Value} {a : Act} {w : World} {K : Act → World → Prop} (ho : ops[i]? = some o) (hp : plainOp o = true) (hw : C w) (hy : YieldsIn P ops C o v a) (h : K (a.put o.dst v) w) : wpOp P ops Q i K a w := by
  unfold wpOp
  simp only [ho]
  rcases hy with ⟨hn, hy⟩ | ⟨hn, rfl⟩
  · simp only [hn, if_true]
    left
    have hy' := hy w hw
    unfold Oper.quietAt at hy'
    unfold Oper.wp
    have hne := plain_no_enter (P := P) hp a.eval w
    generalize (execOp a.eval o).run P w = r at *
    cases r with
    | halt _ _ => exact hy'.elim
    | ok n w' =>
      cases n <;> simp only [Oper.quietUpon] at hy' <;> try exact hy'.elim
      case value x => obtain ⟨rfl, rfl⟩ := hy'; exact h
      case skip => obtain ⟨rfl, rfl⟩ := hy'; exact h
      case enter f args => exact absurd rfl (hne f args w')
  · simp only [hn, Bool.false_eq_true, if_false]; exact h

theorem mix_any (ok : MixOk md ops E) : ∀ (n : Nat) (listed : Array Bool) (a : Act) (w : World), (unlB ops listed).length ≤ n → listed.size = ops.size →
    (∀ j oj, ops[j]? = some oj → listed.getD j false = true → ∀ e ∈ oj.after, Region.binds md e = true → listed.getD e.on false = true) →
    (∀ j ∈ unlB ops listed, E.contains j = false → C w) → wpMixI P md ops C E (fun a w => Q .normal a w) (unlB ops listed) a w → wpAny P md ops Q n listed a w := by
  intro n
  induction n with
  | zero =>
    intro listed a w hlen hsz hcl hC h
    have hu : unlB ops listed = [] := List.eq_nil_of_length_eq_zero (Nat.le_zero.1 hlen)
    rw [hu] at h
    refine ⟨?_, h⟩
    cases hr : Region.ready md ops listed with
    | nil => rfl
    | cons x xs =>
      have hx : x ∈ Region.ready md ops listed := by rw [hr]; exact List.mem_cons_self
      obtain ⟨h1, o, ho, _⟩ := mem_ready.1 hx
      have : x ∈ unlB ops listed := mem_unl.2 ⟨(Array.getElem?_eq_some_iff.1 ho).1, h1⟩
      rw [hu] at this; cases this
  | succ n ih =>
    intro listed a w hlen hsz hcl hC h
    refine ⟨fun hr => ?_, fun i hi => ?_⟩
    · -- nothing may come up: nothing is left
      cases hu : unlB ops listed with
      | nil => rw [hu] at h; exact h
      | cons i0 U =>
        exfalso
        have hi0 : i0 ∈ unlB ops listed := by rw [hu]; exact List.mem_cons_self
        obtain ⟨hlt, hun⟩ := mem_unl.1 hi0
        have hpw : (unlB ops listed).Pairwise (· < ·) := List.Pairwise.filter _ List.pairwise_lt_range
        rw [hu, List.pairwise_cons] at hpw
        have : i0 ∈ Region.ready md ops listed := by
          refine mem_ready.2 ⟨hun, ops[i0], by simp [hlt], fun e he hb => ?_⟩
          have hon := ok.topo i0 ops[i0] (by simp [hlt]) e he hb
          cases hl : listed.getD e.on false with
          | true => rfl
          | false =>
            have hm : e.on ∈ unlB ops listed := mem_unl.2 ⟨by omega, getD_in (by omega) hl⟩
            rw [hu] at hm
            rcases List.mem_cons.1 hm with hm | hm
            · omega
            · have := hpw.1 _ hm; omega
        rw [hr] at this; cases this
    · obtain ⟨hun, o, ho, hall⟩ := mem_ready.1 hi
      have hlt : i < ops.size := (Array.getElem?_eq_some_iff.1 ho).1
      have hmem : i ∈ unlB ops listed := mem_unl.2 ⟨hlt, hun⟩
      obtain ⟨pre, post, hsplit⟩ := List.append_of_mem hmem
      have hpw : (unlB ops listed).Pairwise (· < ·) := List.Pairwise.filter _ List.pairwise_lt_range
      rw [hsplit] at hpw
      have hpre : ∀ p ∈ pre, p < i := fun p hp => (List.pairwise_append.1 hpw).2.2 p hp i List.mem_cons_self
      have hpost : ∀ p ∈ post, i < p := fun p hp => (List.pairwise_cons.1 (List.pairwise_append.1 hpw).2.1).1 p hp
      have hunp : ∀ p ∈ pre, listed.getD p true = false := fun p hp => (mem_unl.1 (by rw [hsplit]; exact List.mem_append_left _ hp)).2
      have hap : ∀ p ∈ pre, ∀ op, ops[p]? = some op → op.apart ops o = true := by
        intro p hp op hop
        rcases ok.apart i o p op ho hop (hpre p hp) with ⟨e, he, hb, hon⟩ | h1
        · have h2 := hall e he hb
          rw [hon, getD_both (hunp p hp)] at h2
          cases h2
        · exact h1
      have hsz' : (listed.setIfInBounds i true).size = ops.size := by simp [hsz]
      have hcl' : ∀ j oj, ops[j]? = some oj → (listed.setIfInBounds i true).getD j false = true → ∀ e ∈ oj.after, Region.binds md e = true → (listed.setIfInBounds i true).getD e.on false = true := by
        intro j oj hj hl e he hb
        by_cases hij : i = j
        · subst hij
          have : oj = o := Option.some.inj (hj.symm.trans ho)
          subst this
          exact getD_set_true (hall e he hb)
        · rw [getD_set_ne false hij] at hl
          exact getD_set_true (hcl j oj hj hl e he hb)
      have hu' : unlB ops (listed.setIfInBounds i true) = pre ++ post := by
        have e1 : unlB ops (listed.setIfInBounds i true) = (unlB ops listed).filter (fun j => j != i) := by
          unfold unlB
          rw [List.filter_filter]
          refine List.filter_congr fun j hj => ?_
          by_cases hij : i = j
          · subst hij
            have : (listed.setIfInBounds i true).getD i true = true := by
              have : i < listed.size := by omega
              simp [this]
            simp [this]
          · rw [getD_set_ne true hij]
            have : (j != i) = true := by simp; exact fun e => hij e.symm
            simp [this]
        rw [e1, hsplit, List.filter_append, List.filter_cons]
        have f1 : pre.filter (fun j => j != i) = pre := List.filter_eq_self.2 fun p hp => by have := hpre p hp; simp; omega
        have f2 : post.filter (fun j => j != i) = post := List.filter_eq_self.2 fun p hp => by have := hpost p hp; simp; omega
        simp [f1, f2]
      have hlen' : (unlB ops (listed.setIfInBounds i true)).length ≤ n := by
        rw [hu']; rw [hsplit] at hlen; simp at hlen ⊢; omega
      have hun' : ∀ j ∈ pre ++ post, j ≠ i ∧ listed.getD j true = false := by
        intro j hj
        rcases List.mem_append.1 hj with hj | hj
        · exact ⟨by have := hpre j hj; omega, hunp j hj⟩
        · exact ⟨by have := hpost j hj; omega, (mem_unl.1 (by rw [hsplit]; exact List.mem_append_right _ (List.mem_cons_of_mem _ hj))).2⟩
      have hnot : ∀ j, j ≠ i → listed.getD j true = false → i ∉ descendB md ops j ops.size := by
        intro j hne hl hd
        have := (descend_listed hcl j ops.size i hd).2 (fun e => hne e.symm) (fun oj hoj e he hb => by
          have : oj = o := Option.some.inj (hoj.symm.trans ho)
          subst this
          exact hall e he hb)
        rw [getD_both hl] at this
        cases this
      rw [hsplit] at h
      have keep : ∀ a' w', (∀ j ∈ pre ++ post, E.contains j = false → C w') → wpMixI P md ops C E (fun a w => Q .normal a w) (pre ++ post) a' w' → wpAny P md ops Q n (listed.setIfInBounds i true) a' w' :=
        fun a' w' hc hh => ih _ a' w' hlen' hsz' hcl' (by rw [hu']; exact hc) (by rw [hu']; exact hh)
      cases hE : E.contains i with
      | false =>
        have hCw := hC i hmem hE
        have hopen : ∀ p ∈ pre, E.contains p = true → openB md ops E p = true := by
          intro p hp _
          unfold openB
          refine List.any_eq_true.2 ⟨i, List.mem_range.2 hlt, ?_⟩
          rw [hE]
          have : p ∉ descendB md ops i ops.size := fun hd => by have := descend_ge ok.topo i _ p hd; have := hpre p hp; omega
          simp [this]
        obtain ⟨v, hy, hr⟩ := mix_pickA ok.sel ho hE (ok.plain i o ho hE) post pre a w hap hopen hCw h
        exact wpOp_of_yields ho (ok.plain i o ho hE) hCw hy (keep _ _ (fun _ _ _ => hCw) hr)
      | true =>
        have hne : ∀ p ∈ pre, E.contains p = false := by
          intro p hp
          cases hEp : E.contains p with
          | false => rfl
          | true =>
            have hplt : p < ops.size := by have := hpre p hp; omega
            have := ok.chain i o p ops[p] ho (by simp [hplt]) (hpre p hp) hEp hE
            exact absurd this (hnot p (by have := hpre p hp; omega) (hunp p hp))
        unfold wpOp
        simp only [ho]
        rcases mix_pickB ok.sel ho hE post pre a w hap hne h with ⟨h1, h2⟩ | ⟨h1, h2⟩
        · simp only [h1, if_true]
          left
          refine wp_noExit (Oper.wp_mono (fun a' w' hh => keep a' w' (fun j hj hEj => hh.1 ?_) hh.2) h2)
          unfold openB
          obtain ⟨hji, hjl⟩ := hun' j hj
          have hjlt : j < ops.size := by
            have : j ∈ unlB ops listed := by
              rw [hsplit]
              rcases List.mem_append.1 hj with hj | hj
              · exact List.mem_append_left _ hj
              · exact List.mem_append_right _ (List.mem_cons_of_mem _ hj)
            exact (mem_unl.1 this).1
          refine List.any_eq_true.2 ⟨j, List.mem_range.2 hjlt, ?_⟩
          have := hnot j hji hjl
          rw [hEj]
          simp [this]
        · simp only [h1, Bool.false_eq_true, if_false]
          refine keep _ _ (fun j hj hEj => hC j ?_ hEj) h2
          rw [hsplit]
          rcases List.mem_append.1 hj with hj | hj
          · exact List.mem_append_left _ hj
          · exact List.mem_append_right _ (List.mem_cons_of_mem _ hj)

/-! ### What the walks use -/
/-- The walk in the order of the text, the operations themselves. -/
def wpMix (P : Program) (ops : Array Oper) (C : World → Prop) (E : List Nat) (Q : Exit → Act → World → Prop) : Nat → List Oper → Act → World → Prop
  | _, [], a, w => Q .normal a w
  | k, o :: rest, a, w =>
    if Region.wanted o (yielded ops a.tmps) then
      if E.contains k then o.wp P a w (fun a' w' => (openB .any ops E k = true → C w') ∧ wpMix P ops C E Q (k + 1) rest a' w') noExit
      else o.quiet P a C (fun a' => wpMix P ops C E Q (k + 1) rest a' w)
    else wpMix P ops C E Q (k + 1) rest (a.put o.dst undef) w

theorem wpMixI_of_wpMix : ∀ (l : List Oper) (k : Nat) (a : Act) (w : World), (∀ j, j < l.length → ops[k + j]? = l[j]?) → wpMix P ops C E Q k l a w → wpMixI P .any ops C E (fun a w => Q .normal a w) (List.range' k l.length) a w
  | [], k, a, w, _, h => h
  | o :: l, k, a, w, hl, h => by
    have h0 : ops[k]? = some o := by simpa using hl 0 (by simp)
    have IH := fun a w => wpMixI_of_wpMix l (k + 1) a w (fun j hj => by have := hl (j + 1) (by simp; omega); simpa [Nat.add_assoc, Nat.add_comm 1 j] using this)
    rw [List.length_cons, List.range'_succ, mix_cons h0]
    rw [wpMix] at h
    split
    · rename_i hw
      simp only [hw, if_true] at h
      split
      · rename_i hE
        simp only [hE, if_true] at h
        exact Oper.wp_mono (fun a' w' hh => ⟨hh.1, IH _ _ hh.2⟩) h
      · rename_i hE
        simp only [hE] at h
        exact Oper.quiet_mono (fun a' hh => IH _ _ hh) h
    · rename_i hw
      simp only [hw] at h
      exact IH _ _ h

theorem wp_region_mix {id : Nat} {a : Act} {w : World} {l : List Oper} (E : List Nat) (C : World → Prop) (hm : P.follows .mixedOrders = true) (hB : mixB .any l.toArray E = true) (hC : C w.drew)
    (h : wpMix P l.toArray C E Q 0 l a w.drew) : (Code.region id l.toArray true).wp P Q a w := by
  have ok := mixB_ok hB
  have hu : unlB l.toArray (Array.replicate l.toArray.size false) = List.range' 0 l.length := by
    unfold unlB
    rw [List.filter_eq_self.2, List.range_eq_range']
    · simp
    · intro i hi
      have hi' : i < l.length := by simpa using hi
      simp [hi']
  refine wp_region_any hm (mix_any (C := C) (E := E) ok _ _ a _ ?_ (by simp) ?_ ?_ ?_)
  · rw [hu]; simp
  · intro j oj _ hl
    rw [getD_replicate_false] at hl; cases hl
  · intro _ _ _; exact hC
  · rw [hu]
    exact wpMixI_of_wpMix l 0 a _ (fun j hj => by simp) h

/-- A stretch of n operations that only load. -/
theorem wpMix_seg (n : Nat) {k : Nat} {l : List Oper} {a : Act} {w : World} (hE : ((List.range n).all fun j => !E.contains (k + j)) = true) (hn : n ≤ l.length)
    (h : wpQuiet P ops C (fun a' => wpMix P ops C E Q (k + n) (l.drop n) a' w) (l.take n) a) : wpMix P ops C E Q k l a w := by
  induction n generalizing k l a with
  | zero => exact h
  | succ n ih =>
    cases l with
    | nil => simp at hn
    | cons o l =>
      have h0 : E.contains k = false := by simpa using List.all_eq_true.1 hE 0 (List.mem_range.2 (by omega))
      have hE' : ((List.range n).all fun j => !E.contains (k + 1 + j)) = true := by
        refine List.all_eq_true.2 fun j hj => ?_
        have := List.all_eq_true.1 hE (j + 1) (List.mem_range.2 (by have := List.mem_range.1 hj; omega))
        rwa [show k + (j + 1) = k + 1 + j by omega] at this
      simp only [List.take_succ_cons, List.drop_succ_cons, wpQuiet] at h
      rw [wpMix, h0]
      have e : k + (n + 1) = k + 1 + n := by omega
      rw [e] at h
      split
      · rename_i hw
        simp only [hw, if_true] at h
        exact Oper.quiet_mono (fun a' hh => ih hE' (by simpa using hn) hh) h
      · rename_i hw
        simp only [hw] at h
        exact ih hE' (by simpa using hn) h

def MixK (b : Bool) (C : World → Prop) (R : Act → World → Prop) : Exit → Act → World → Prop
  | .normal, a, w => (b = true → C w) ∧ R a w
  | _, _, _ => False

theorem MixK.last {b : Bool} {a : Act} {w : World} (hb : b = false) (h : R a w) : MixK b C R .normal a w := by
  show (b = true → C w) ∧ R a w
  exact ⟨(fun e => by rw [hb] at e; cases e), h⟩
theorem MixK.on {b : Bool} {a : Act} {w : World} (hc : C w) (h : R a w) : MixK b C R .normal a w := by
  show (b = true → C w) ∧ R a w
  exact ⟨fun _ => hc, h⟩

/-- An operation on memory. -/
theorem wpMix_eff {k : Nat} {o : Oper} {rest : List Oper} {a : Act} {w : World} (hE : E.contains k = true)
    (h : wpList P ops (MixK (openB .any ops E k) C (fun a' w' => wpMix P ops C E Q (k + 1) rest a' w')) [o] a w) : wpMix P ops C E Q k (o :: rest) a w := by
  rw [wpMix, hE]
  unfold wpList at h
  split
  · rename_i hw
    simp only [hw, if_true] at h ⊢
    rcases h with h | ⟨_, h⟩
    · unfold Oper.wp at *
      generalize (execOp a.eval o).run P w = r at *
      cases r with
      | ok n w' =>
        cases n <;> simp only [Oper.upon] at h ⊢ <;> try exact h
      | halt x w' => cases x <;> simp only [Oper.upon] at h ⊢ <;> exact h.elim
    · obtain ⟨a0, w0, h0⟩ := h
      exact h0.elim
  · rename_i hw
    simp only [hw] at h
    exact h.2

/-- A world in which S holds. -/
structure Memb (S : World → Prop) where
  at_ : World
  is : S at_
/-- The class of the worlds in which S holds, in the form in which the walk's steps take it: a fact of every such world may be laid as a rule. -/
def InS (S : World → Prop) (w : World) : Prop := ∃ x : Memb S, w = x.at_
theorem InS.mk {S : World → Prop} {w : World} (h : S w) : InS S w := ⟨⟨w, h⟩, rfl⟩
attribute [go_sem] InS
theorem wpMix_nil {k : Nat} {a : Act} {w : World} (h : Q .normal a w) : wpMix P ops C E Q k [] a w := h
end Mix
theorem quiet_conv {P : Program} {S : World → Prop} {a a' : Act} {o : Oper} {K : Act → Prop} {s t : TypeId} {x : Operand} {v u : Value} {d : Nat}
    (hm : ∀ x : Memb S, (convert s t v).run P x.at_ = .ok u x.at_) (h : o.op = .convert s t x) (hd : o.dst = some d) (he : a.eval x = v) (ha : a.put (some d) u = a') (hk : K a') : o.quiet P a (InS S) K := by
  refine ⟨u, fun w hw => ?_, by rw [hd, ha]; exact hk⟩
  obtain ⟨y, rfl⟩ := hw
  have e : (execOp a.eval o).run P y.at_ = .ok (.value u) y.at_ := by
    unfold execOp
    rw [h]
    simp only [Sem.run_bind, Sem.run_pure]
    rw [he, hm y]; rfl
  unfold Oper.quietAt
  rw [e]
  exact ⟨rfl, rfl⟩
end Go.Proofs.Ytgehkioneelgcaa
/- Slices of bytes: one that reads as a row of numbers; one that the call itself made; append and slices.Clone. -/
namespace Go.Proofs.Ytgehkioneelgcaa
open Go.RowKit

/-- A slice that reads as the bytes zs. -/
structure Bs (w : World) (A : Option Addr) (n cap : Nat) (zs : List Int) : Prop where
  len : zs.length = n
  le : n ≤ cap
  max : cap ≤ 9223372036854775807
  nil : A = none → n = 0 ∧ cap = 0
  byte : ∀ z ∈ zs, 0 ≤ z ∧ z ≤ 255
  at_ : 0 < n → ∃ b off, A = some ⟨b, off, none⟩ ∧ b < w.heap.size ∧ ∀ i, i < n → w.cell? ⟨b, off + i, none⟩ = some (.int .u8 (zs.getD i 0))

theorem byte_getD {zs : List Int} (h : ∀ z ∈ zs, 0 ≤ z ∧ z ≤ 255) (i : Nat) : 0 ≤ zs.getD i 0 ∧ zs.getD i 0 ≤ 255 := by
  by_cases hi : i < zs.length
  · exact h _ (getD_mem 0 hi)
  · simp [List.getD, List.getElem?_eq_none (show zs.length ≤ i by omega)]

theorem Bs.keeps {w w' : World} {A : Option Addr} {n cap : Nat} {zs : List Int} {S : Nat → Prop} (h : Bs w A n cap zs) (hk : Keeps S w w') (hS : ∀ b off, 0 < n → b < w.heap.size → A = some ⟨b, off, none⟩ → ¬ S b) : Bs w' A n cap zs :=
  ⟨h.len, h.le, h.max, h.nil, h.byte, fun hn => by
    obtain ⟨b, off, e, hb, hc⟩ := h.at_ hn
    exact ⟨b, off, e, Nat.lt_of_lt_of_le hb hk.size, fun i hi => (hk.cell (p := ⟨b, off + i, none⟩) hb (hS b off hn hb e)).trans (hc i hi)⟩⟩
theorem Bs.drewN {w : World} {A : Option Addr} {n cap : Nat} {zs : List Int} (h : Bs w A n cap zs) (k : Nat) : Bs (w.drewN k) A n cap zs := ⟨h.len, h.le, h.max, h.nil, h.byte, h.at_⟩
theorem Bs.drew {w : World} {A : Option Addr} {n cap : Nat} {zs : List Int} (h : Bs w A n cap zs) : Bs w.drew A n cap zs := ⟨h.len, h.le, h.max, h.nil, h.byte, h.at_⟩
theorem Bs.alloc {w : World} {A : Option Addr} {n cap : Nat} {zs : List Int} (h : Bs w A n cap zs) (o : Obj) : Bs (w.alloc o) A n cap zs :=
  h.keeps (S := None) ((Keeps.refl _ _).alloc o) (fun _ _ _ _ _ h => h)
theorem Bs.later {w w' : World} {A : Option Addr} {n cap : Nat} {zs : List Int} (h : Bs w A n cap zs) (hk : Keeps (fun b => w.heap.size ≤ b) w w') : Bs w' A n cap zs :=
  h.keeps hk (fun _ _ _ hb _ hs => by omega)
/-- One byte of it. -/
theorem Bs.get {w : World} {A : Option Addr} {n cap : Nat} {zs : List Int} (h : Bs w A n cap zs) {i : Nat} (hi : i < n) :
    ∃ b off z, A = some ⟨b, off, none⟩ ∧ zs.getD i 0 = z ∧ 0 ≤ z ∧ z ≤ 255 ∧ w.cell? ⟨b, off + i, none⟩ = some (.int .u8 z) := by
  obtain ⟨b, off, e, _, hc⟩ := h.at_ (by omega)
  have hb := h.byte _ (getD_mem 0 (show i < zs.length by have := h.len; omega))
  exact ⟨b, off, _, e, rfl, hb.1, hb.2, hc i hi⟩

/-- A slice of bytes of the call's own, from block B on. -/
def Own (w : World) (B : Nat) (v : Value) (zs : List Int) : Prop := w.ownsRow B 5 1 v zs.length (zs.map (.int .u8)) ∧ ∀ z ∈ zs, 0 ≤ z ∧ z ≤ 255

theorem Own.nil (w : World) (B : Nat) : Own w B (.slice none 0 0) [] := ⟨World.ownsRow_nil _ _ _ _, by simp⟩
theorem Own.shape {w : World} {B : Nat} {v : Value} {zs : List Int} (h : Own w B v zs) : ∃ A cap, v = .slice A zs.length cap ∧ Bs w A zs.length cap zs ∧ (∀ b off, A = some ⟨b, off, none⟩ → B ≤ b ∧ b < w.heap.size ∧ off = 0) := by
  rcases h.1.2 with ⟨rfl, h0⟩ | ⟨g, cap, cur, rfl, hb, hg, hn, hm, hs, ht⟩
  · refine ⟨none, 0, by rw [h0], ⟨rfl, by omega, by omega, fun _ => ⟨h0, rfl⟩, h.2, fun hn => by omega⟩, fun _ _ e => by cases e⟩
  · have hlt := (Array.getElem?_eq_some_iff.1 hg).1
    refine ⟨some ⟨g, 0, none⟩, cap, rfl, ⟨rfl, hn, by unfold maxLen at hm; omega, (fun e => by cases e), h.2, fun _ => ⟨g, 0, rfl, hlt, fun i hi => ?_⟩⟩, fun b off e => ?_⟩
    · have := h.1.cells (g := g) rfl i (.int .u8 (zs.getD i 0)) (map_getD 0 hi)
      have e2 : (⟨g, 0, none⟩ : Addr).add i = ⟨g, 0 + i, none⟩ := by unfold Addr.add; split <;> simp_all
      rwa [e2] at this
    · cases e; exact ⟨hb, hlt, rfl⟩
theorem Own.frozen {w : World} {B : Nat} {zs : List Int} {g n cap : Nat} {v : Value} (h : Own w B v zs) (hv : v = .slice (some ⟨g, 0, none⟩) n cap) (j : Nat) : w.frozen? ⟨g, j, none⟩ = false := by
  subst hv
  rcases h.1.2 with ⟨e, _⟩ | ⟨g', cap', cur, e, hb, hg, _⟩
  · cases e
  · cases e
    simp [World.frozen?, hg]
theorem Own.keeps {w w' : World} {B : Nat} {v : Value} {zs : List Int} {S : Nat → Prop} (h : Own w B v zs) (hk : Keeps S w w') (hS : ∀ b, v.ownBlock = some b → ¬ S b) : Own w' B v zs := by
  refine ⟨⟨h.1.1, ?_⟩, h.2⟩
  rcases h.1.2 with hn | ⟨g, cap, cur, rfl, hb, hg, rest⟩
  · exact .inl hn
  · refine .inr ⟨g, cap, cur, rfl, hb, ?_, rest⟩
    rw [hk.block g (Array.getElem?_eq_some_iff.1 hg).1 (hS g rfl)]; exact hg
theorem Own.drewN {w : World} {B : Nat} {v : Value} {zs : List Int} (h : Own w B v zs) (k : Nat) : Own (w.drewN k) B v zs := h
theorem Own.drew {w : World} {B : Nat} {v : Value} {zs : List Int} (h : Own w B v zs) : Own w.drew B v zs := h
theorem Own.alloc {w : World} {B : Nat} {v : Value} {zs : List Int} (h : Own w B v zs) (o : Obj) : Own (w.alloc o) B v zs := ⟨h.1.alloc o, h.2⟩
theorem Own.lower {w : World} {B B' : Nat} {v : Value} {zs : List Int} (h : Own w B v zs) (hB : B' ≤ B) : Own w B' v zs := by
  refine ⟨⟨h.1.1, ?_⟩, h.2⟩
  rcases h.1.2 with hn | ⟨g, cap, cur, e, hb, rest⟩
  · exact .inl hn
  · exact .inr ⟨g, cap, cur, e, Nat.le_trans hB hb, rest⟩
theorem Own.at_ {w : World} {B : Nat} {A : Option Addr} {n cap : Nat} {zs : List Int} (h : Own w B (.slice A n cap) zs) {k : Nat} (hk : k < n) :
    ∃ g, A = some ⟨g, 0, none⟩ ∧ B ≤ g ∧ g < w.heap.size ∧ n = zs.length ∧ n ≤ cap ∧ cap ≤ 9223372036854775807 ∧ w.cell? ⟨g, k, none⟩ = some (.int .u8 (zs.getD k 0)) ∧ w.frozen? ⟨g, k, none⟩ = false := by
  rcases h.1.2 with ⟨e, h0⟩ | ⟨g, cap', cur, e, hb, hg, hn, hm, hs, ht⟩
  · cases e; omega
  · cases e
    have hlt := (Array.getElem?_eq_some_iff.1 hg).1
    have hc := h.1.cells (g := g) rfl k (.int .u8 (zs.getD k 0)) (map_getD 0 hk)
    have e2 : (⟨g, 0, none⟩ : Addr).add k = ⟨g, k, none⟩ := by unfold Addr.add; split <;> simp_all
    rw [e2] at hc
    exact ⟨g, rfl, hb, hlt, rfl, hn, by unfold maxLen at hm; omega, hc, by simp [World.frozen?, hg]⟩
theorem Own.len {w : World} {B : Nat} {A : Option Addr} {n cap : Nat} {zs : List Int} (h : Own w B (.slice A n cap) zs) : n = zs.length := by
  rcases h.1.2 with ⟨e, h0⟩ | ⟨g, cap', cur, e, _⟩
  · cases e; exact h0.symm
  · cases e; rfl
theorem Own.notBelow {w : World} {B : Nat} {v : Value} {zs : List Int} (h : Own w B v zs) {i : Nat} (hi : i < B) : ¬ v.ownBlock = some i := by
  rcases h.1.2 with ⟨rfl, _⟩ | ⟨g, cap, cur, rfl, hb, _⟩
  · intro e; cases e
  · intro e
    have e2 : g = i := by simpa [Value.ownBlock] using e
    omega
/-- A byte stored into it. -/
theorem Own.store {w : World} {B : Nat} {zs : List Int} {g n cap : Nat} {v : Value} (h : Own w B v zs) (hv : v = .slice (some ⟨g, 0, none⟩) n cap) (j : Nat) (z : Int) (hz : 0 ≤ z ∧ z ≤ 255) (hj : j < zs.length) :
    Own (w.setCell ⟨g, j, none⟩ (.int .u8 z)) B v (zs.set j z) := by
  subst hv
  have hn : n = zs.length := by
    rcases h.1.2 with ⟨e, _⟩ | ⟨_, _, _, e, _⟩
    · cases e
    · cases e; rfl
  subst hn
  refine ⟨?_, fun y hy => ?_⟩
  · have := (h.1.stored j (.int .u8 z)).1
    rw [List.length_set, List.map_set]
    exact this
  · rcases List.mem_or_eq_of_mem_set hy with hy | rfl
    · exact h.2 y hy
    · exact hz

theorem Try.info5 : (Try.prog.info? 5).map (fun i => (i.zero, i.size, i.bytes)) = some (some (.int .u8 0), 1, 1) := by kernel_rfl

theorem run_append_bs {w : World} {B : Nat} {v : Value} {zs ns : List Int} {A : Option Addr} {m c : Nat} (hown : Own w B v zs) (hs : Bs w A m c ns) (hlen : zs.length + m ≤ 140737488355328) (hB : B ≤ w.heap.size) :
    ∃ v' w', (Builtin.append_ #[24, 24] 24 #[v, .slice A m c]).run Try.prog w = .ok v' w' ∧ Own w' B v' (zs ++ ns) ∧ Keeps (fun k => v.ownBlock = some k) w w' ∧ (v' = .slice none 0 0 → zs ++ ns = []) := by
  obtain ⟨i, hi, hz0, hz1, hz2⟩ := info_parts Try.info5
  cases A with
  | none =>
    obtain ⟨rfl, rfl⟩ := hs.nil rfl
    have e : ns = [] := List.eq_nil_of_length_eq_zero hs.len
    subst e
    refine ⟨v, w, run_append_owned_none (P := Try.prog) w B 24 24 5 i 1 Try.underlying24 hi v _ _ hown.1, by rw [List.append_nil]; exact hown, Keeps.refl _ _, fun hv => ?_⟩
    rcases hown.1.2 with ⟨_, h0⟩ | ⟨g, cap, cur, e, _⟩
    · rw [List.append_nil]; exact List.eq_nil_of_length_eq_zero h0
    · rw [hv] at e; cases e
  | some a =>
    have hcells : ∀ j u, (ns.map (Value.int .u8))[j]? = some u → w.cell? (a.add j) = some u := by
      intro j u hu
      have hj : j < ns.length := by
        rcases Nat.lt_or_ge j ns.length with h | h
        · exact h
        · rw [List.getElem?_eq_none (by simpa using h)] at hu; cases hu
      obtain ⟨b, off, e, _, hc⟩ := hs.at_ (by have := hs.len; omega)
      cases e
      have e2 : (⟨b, off, none⟩ : Addr).add j = ⟨b, off + j, none⟩ := by unfold Addr.add; split <;> simp_all
      rw [e2, hc j (by have := hs.len; omega), ← hu, map_getD 0 hj]
    obtain ⟨v', w', hr, ho, hg, hnil⟩ := run_append_own (P := Try.prog) w B 24 24 5 i (.int .u8 0) 1 1 Try.underlying24 hi hz0 hz1 hz2 rfl (by decide) v zs.length (zs.map (.int .u8)) hown.1 a m c (ns.map (.int .u8)) (by simp [hs.len]) hcells
      (by intro u hu; obtain ⟨z, _, rfl⟩ := List.mem_map.1 hu; rfl) (by unfold maxLen; omega) (by omega) hB
    refine ⟨v', w', hr, ⟨?_, ?_⟩, (Keeps.refl _ w).grown hg (fun k hk _ => hk), fun hv => ?_⟩
    · rw [List.length_append, hs.len, List.map_append]; exact ho
    · intro z hz
      rcases List.mem_append.1 hz with hz | hz
      · exact hown.2 z hz
      · exact hs.byte z hz
    · obtain ⟨e1, e2⟩ := hnil.1 hv
      have h0 : zs.length = 0 := by
        rcases hown.1.2 with ⟨_, h0⟩ | ⟨g, cap, cur, e, _⟩
        · exact h0
        · rw [e1] at e; cases e
      have : ns.length = 0 := by rw [hs.len]; exact e2
      rw [List.eq_nil_of_length_eq_zero h0, List.eq_nil_of_length_eq_zero this]; rfl

theorem wpList_append_bs {ops : Array Oper} {rest : List Oper} {o : Oper} {a : Act} {Q : Exit → Act → World → Prop} {s x : Operand} {w : World} {B : Nat} {v : Value} {zs ns : List Int} {A : Option Addr} {m c : Nat}
    (hown : Own w B v zs) (hs : Bs w A m c ns) (hlen : zs.length + m ≤ 140737488355328) (hB : B ≤ w.heap.size) (hg : o.guard = none) (hty : o.type = 24) (ho : o.op = .call { callee := .builtin .append, args := #[s, x], argTypes := #[24, 24] }) (h1 : a.eval s = v) (h2 : a.eval x = .slice A m c)
    (h : ∀ v' w', Own w' B v' (zs ++ ns) → Keeps (fun k => v.ownBlock = some k) w w' → wpList Try.prog ops Q rest (a.put o.dst v') w') : wpList Try.prog ops Q (o :: rest) a w := by
  obtain ⟨v', w', hr, h3, h4, _⟩ := run_append_bs hown hs hlen hB
  exact wpList_append_run hr hg hty ho h1 h2 (h v' w' h3 h4)

/-- A slice of one byte that the text itself lays. -/
theorem Bs.oneAt (w : World) (b : Nat) (hb : b = w.heap.size) (z : Int) (hz : 0 ≤ z ∧ z ≤ 255) : Bs (w.alloc (.cells #[.int .u8 z] 5)) (some ⟨b, 0, none⟩) 1 1 [z] := by
  subst hb
  exact ⟨rfl, Nat.le_refl _, by decide, (fun e => by cases e), (fun y hy => by rw [List.mem_singleton.1 hy]; exact hz), fun _ => ⟨w.heap.size, 0, rfl, by simp, fun i hi => by
    obtain rfl : i = 0 := by omega
    simp⟩⟩

/-- The string of these bytes. -/
def strOf (zs : List Int) : ByteArray := zs.foldl (fun r n => r.push (UInt8.ofNat n.toNat)) ByteArray.empty

theorem run_str {w : World} {A : Option Addr} {n cap : Nat} {zs : List Int} (h : Bs w A n cap zs) : (convert 24 9 (.slice A n cap)).run Try.prog w = .ok (.string (strOf zs)) w := by
  rw [run_convert_bytes_string w 24 9 5 A n cap Try.underlying24 Try.underlying5 Try.underlying9]
  cases A with
  | none =>
    obtain ⟨rfl, rfl⟩ := h.nil rfl
    have e : zs = [] := List.eq_nil_of_length_eq_zero h.len
    subst e
    rfl
  | some a =>
    refine run_bytesToString w a n cap zs ?_
    have hl := h.len
    have := run_loadCells_list (P := Try.prog) (w := w) a (zs.map (.int .u8)) (fun j v hv => by
      have hj : j < zs.length := by
        rcases Nat.lt_or_ge j zs.length with h' | h'
        · exact h'
        · rw [List.getElem?_eq_none (by simpa using h')] at hv; cases hv
      obtain ⟨b, off, e, _, hc⟩ := h.at_ (by omega)
      cases e
      have e2 : (⟨b, off, none⟩ : Addr).add j = ⟨b, off + j, none⟩ := by unfold Addr.add; split <;> simp_all
      rw [e2, hc j (by omega), ← hv, map_getD 0 hj])
    rw [List.length_map, hl] at this
    exact this

/-- What Clone gives. -/
def Cloned (w : World) (zs : List Int) (e : Ending) (w' : World) : Prop := ∃ v, e = .returned v ∧ Own w' w.heap.size v zs ∧ Keeps None w w'

set_option maxRecDepth 100000 in
set_option maxHeartbeats 400000 in
theorem clone_any (A : Option Addr) (n cap : Nat) (zs : List Int) (w : World) (h : Bs w A n cap zs) (hn : n ≤ 140737488355328) :
    Calls Try.prog 29 #[.slice A n cap] w (Cloned w zs) := by
  have hnil := fun w => Lib.run_eql_slice_nil (P := Try.prog) w 24 5 A n cap 0 0 Try.underlying24
  cases A with
  | none =>
    obtain ⟨rfl, rfl⟩ := h.nil rfl
    have e : zs = [] := List.eq_nil_of_length_eq_zero h.len
    subst e
    go_enter Try.func29, Try.ntmps29
    go_wp2
    go_ret
    exact ⟨_, rfl, Own.nil _ _, Keeps.refl _ _⟩
  | some a =>
    have hown : Own (w.alloc (.cells #[] 5)) w.heap.size (.slice (some ⟨w.heap.size, 0, none⟩) 0 0) [] := ⟨World.ownsRow_made w #[] 0 (Nat.le_refl _) (by unfold maxLen; omega) rfl, by simp⟩
    obtain ⟨v', w', hr, ho, hk, _⟩ := run_append_bs hown (h.alloc (.cells #[] 5)) (by simpa using hn) (by simp)
    rw [List.nil_append] at ho
    have k2 : Keeps None w w' := ((Keeps.refl None w).alloc _).trans hk (fun _ h => h) (fun i hi h => by simp [Value.ownBlock] at h; omega)
    go_enter Try.func29, Try.ntmps29
    go_wp2_with (at_builtin; refine wpList_append_run hr rfl rfl rfl rfl rfl ?_)
    go_ret
    exact ⟨_, rfl, ho, k2⟩
end Go.Proofs.Ytgehkioneelgcaa
/- The walks of package nor. -/
namespace Go.Proofs.Ytgehkioneelgcaa
open Go.RowKit

/-- Can some bytes be programmed to others? -/
def canN (os ns : List Int) : Bool := decide (os.length = ns.length ∧ ∀ i, i < os.length → bits .andNot .u8 (ns.getD i 0) (os.getD i 0) = 0)
/-- A bool, and some draws. -/
def Told (b : Bool) (w : World) (e : Ending) (w' : World) : Prop := e = .returned (.bool b) ∧ ∃ m, w' = w.drewN m
theorem Told.same {b : Bool} {w : World} : Told b w (.returned (.bool b)) w := ⟨rfl, 0, rfl⟩

set_option maxRecDepth 100000 in
set_option maxHeartbeats 800000 in
theorem can_any (A1 A2 : Option Addr) (n1 c1 n2 c2 : Nat) (os ns : List Int) (w : World) (h1 : Bs w A1 n1 c1 os) (h2 : Bs w A2 n2 c2 ns) :
    Calls Try.prog 71 #[.slice A1 n1 c1, .slice A2 n2 c2] w (Told (canN os ns) w) := by
  have m1 := h1.le
  have m2 := h1.max
  have m3 := h2.le
  have m4 := h2.max
  by_cases hn : n1 = n2
  · subst hn
    have e1 : ((n1 : Int) != n1) = false := by simp
    have H1 := Lib.hid h1
    have H2 := Lib.hid h2
    clear h1 h2
    go_enter Try.func71, Try.ntmps71
    go_wp2
    go_loopw [13] (fun i wr => ∃ k m : Nat, k ≤ n1 ∧ i = .int .i64 k ∧ wr = w.drewN m ∧ ∀ i, i < k → bits .andNot .u8 (ns.getD i 0) (os.getD i 0) = 0) (fun i _ => n1 - (intOf i).toNat)
    case atStart => exact ⟨0, 0, Nat.zero_le _, rfl, rfl, fun i hi => by omega⟩
    case round =>
      obtain ⟨k, m, hkn, rfl, rfl, hall⟩ := hrel
      have HA := Lib.hid hall
      clear hall
      by_cases hlt : k < n1
      · obtain ⟨b1, o1, z1, rfl, g1, _, _, cc1⟩ := H1.out.get hlt
        obtain ⟨b2, o2, z2, rfl, g2, _, _, cc2⟩ := H2.out.get hlt
        have G1 := Lib.hid g1
        have G2 := Lib.hid g2
        clear g1 g2
        by_cases hb : bits .andNot .u8 z2 z1 = 0
        · have q : (bits .andNot .u8 z2 z1 != 0) = false := by simp [hb]
          have HB := Lib.hid hb
          clear hb
          go_wp2
          go_quiet (fail)
          go_wp2
          go_roundw
          case rel =>
            refine ⟨k + 1, m + nq, by omega, by go_num, (by first | rfl | rw [World.drewN_drewN]), fun i hi => ?_⟩
            by_cases h : i = k
            · subst h; rw [G1.out, G2.out]; exact HB.out
            · exact HA.out i (by omega)
          case measure => simp [intOf]; omega
        · have q : (bits .andNot .u8 z2 z1 != 0) = true := by simp [hb]
          have fin : canN os ns = false := by
            simp only [canN, decide_eq_false_iff_not]
            intro h
            exact hb (by rw [← G1.out, ← G2.out]; exact h.2 k (by have := H1.out.len; omega))
          have FIN := Lib.hid fin
          clear hb fin
          go_wp2
          go_quiet (fail)
          go_wp2
          go_ret
          exact ⟨ret_bool FIN.out.symm, m + nq, by first | rfl | rw [World.drewN_drewN]⟩
      · have fin : canN os ns = true := by
          simp only [canN, decide_eq_true_eq]
          have l1 := H1.out.len
          have l2 := H2.out.len
          exact ⟨by omega, fun i hi => HA.out i (by omega)⟩
        have FIN := Lib.hid fin
        clear fin
        go_wp2
        go_ret
        exact ⟨ret_bool FIN.out.symm, m, rfl⟩
  · have e1 : ((n1 : Int) != n2) = true := by simp; omega
    have fin : canN os ns = false := by
      simp only [canN, decide_eq_false_iff_not]
      have l1 := h1.len
      have l2 := h2.len
      intro h; exact hn (by omega)
    rw [fin]
    clear fin h1 h2 hn
    go_enter Try.func71, Try.ntmps71
    go_wp2
    go_ret
    exact ⟨rfl, 0, rfl⟩

set_option maxRecDepth 100000 in
set_option maxHeartbeats 800000 in
theorem nat_any (A : Option Addr) (n cap : Nat) (zs : List Int) (i : Nat) (w : World) (h : Bs w A n cap zs) (hi : i < 9223372036854775807) :
    Calls Try.prog 72 #[.slice A n cap, .int .i64 i] w fun e w' => e = .returned (.int .u8 (zs.getD i 0)) ∧ w = w' := by
  have m1 := h.le
  have m2 := h.max
  by_cases hlt : i < n
  · obtain ⟨b, off, z, rfl, g, _, _, cc⟩ := h.get hlt
    rw [g]
    clear g
    go_enter Try.func72, Try.ntmps72
    go_wp2
    go_ret
    exact ⟨rfl, rfl⟩
  · have g : zs.getD i 0 = 0 := by
      have := h.len
      simp [List.getD, List.getElem?_eq_none (show zs.length ≤ i by omega)]
    rw [g]
    clear g
    go_enter Try.func72, Try.ntmps72
    go_wp2
    go_ret
    exact ⟨rfl, rfl⟩

theorem bits_or_bd (a b : Int) (h1 : 0 ≤ a ∧ a ≤ 255) (h2 : 0 ≤ b ∧ b ≤ 255) : 0 ≤ bits .or .u8 a b ∧ bits .or .u8 a b ≤ 255 := by
  rw [u8_or a b h1.1 (by omega) h2.1 (by omega)]
  have : a.toNat ||| b.toNat < 2 ^ 8 := Nat.or_lt_two_pow (by omega) (by omega)
  omega
theorem bits_and_bd (a b : Int) (h1 : 0 ≤ a ∧ a ≤ 255) (h2 : 0 ≤ b ∧ b ≤ 255) : 0 ≤ bits .and .u8 a b ∧ bits .and .u8 a b ≤ 255 := by
  rw [u8_and a b h1.1 (by omega) h2.1 (by omega)]
  have : a.toNat &&& b.toNat ≤ a.toNat := Nat.and_le_left
  omega
/-- What stands there when bytes were programmed; nothing where they can't be. -/
def progN (os ns : List Int) : List Int := if canN os ns then ns else []

theorem Told.toKeeps {b : Bool} {w w' : World} {e : Ending} (h : Told b w e w') : Keeps None w w' := by
  obtain ⟨_, m, rfl⟩ := h; exact (Keeps.refl _ _).drewN m
theorem Cloned.from {w w1 w' : World} {zs : List Int} {e : Ending} (h : Cloned w1 zs e w') (k : Keeps None w w1) : Cloned w zs e w' := by
  obtain ⟨v, h1, h2, h3⟩ := h
  exact ⟨v, h1, h2.lower k.size, k.trans h3 (fun _ h => h) (fun _ _ h => h)⟩

set_option maxRecDepth 100000 in
set_option maxHeartbeats 800000 in
theorem program_any (A1 A2 : Option Addr) (n1 c1 n2 c2 : Nat) (os ns : List Int) (w : World) (h1 : Bs w A1 n1 c1 os) (h2 : Bs w A2 n2 c2 ns) (hn : n2 ≤ 140737488355328) :
    Calls Try.prog 63 #[.slice A1 n1 c1, .slice A2 n2 c2] w (Cloned w (progN os ns)) := by
  have HC := Lib.hid (can_any A1 A2 n1 c1 n2 c2 os ns w h1 h2)
  cases hc : canN os ns with
  | true =>
    rw [hc] at HC
    have fin : progN os ns = ns := by simp [progN, hc]
    have HK := Lib.hid fun m => clone_any A2 n2 c2 ns (w.drewN m) (h2.drewN m) hn
    have FIN := Lib.hid fin
    clear fin hc h1 h2
    go_enter Try.func63, Try.ntmps63
    go_wp2_with fail
    refine HC.out.mono ?_
    rintro e w1 ⟨rfl, m, rfl⟩
    go_wp2_with fail
    refine (HK.out m).mono ?_
    rintro e w1 ⟨v, rfl, ho, hk⟩
    go_wp2
    go_ret
    rw [FIN.out]
    exact Cloned.from ⟨v, rfl, ho, hk⟩ ((Keeps.refl _ _).drewN m)
  | false =>
    rw [hc] at HC
    have fin : progN os ns = [] := by simp [progN, hc]
    have FIN := Lib.hid fin
    clear fin hc h1 h2
    go_enter Try.func63, Try.ntmps63
    go_wp2_with fail
    refine HC.out.mono ?_
    rintro e w1 ⟨rfl, m, rfl⟩
    go_wp2
    go_ret
    rw [FIN.out]
    exact ⟨_, rfl, Own.nil _ _, (Keeps.refl _ _).drewN m⟩

/-- What stands there when power went while bytes were programmed. -/
def tornAt (os ns ps : List Int) (i : Nat) : Int := bits .or .u8 (ns.getD i 0) (bits .and .u8 (os.getD i 0) (ps.getD i 0))
def tornTo (os ns ps : List Int) (k : Nat) : List Int := (List.range ns.length).map fun i => if i < k then tornAt os ns ps i else ns.getD i 0
def tornN (os ns ps : List Int) : List Int := if canN os ns then tornTo os ns ps ns.length else []

theorem range_set (n k : Nat) (f : Nat → Int) (v : Int) (hk : k < n) : ((List.range n).map f).set k v = (List.range n).map fun i => if i = k then v else f i := by
  apply List.ext_getElem?
  intro i
  by_cases hi : i < n
  · by_cases h : k = i
    · subst h; simp [hi]
    · rw [List.getElem?_set_ne h]
      have h' : ¬ i = k := fun e => h e.symm
      simp [hi, h']
  · have : ¬ k = i := by omega
    rw [List.getElem?_set_ne this]
    simp [hi]
theorem tornTo_zero (os ns ps : List Int) : tornTo os ns ps 0 = ns := by
  unfold tornTo
  apply List.ext_getElem?
  intro i
  by_cases hi : i < ns.length
  · simp [hi]
  · simp [hi]
theorem tornTo_succ (os ns ps : List Int) (k : Nat) (hk : k < ns.length) : (tornTo os ns ps k).set k (tornAt os ns ps k) = tornTo os ns ps (k + 1) := by
  unfold tornTo
  rw [range_set _ _ _ _ hk]
  refine List.map_congr_left fun i _ => ?_
  by_cases h : i = k
  · subst h; simp
  · by_cases h2 : i < k
    · simp [h, h2, show i < k + 1 by omega]
    · simp [h, h2, show ¬ i < k + 1 by omega]
theorem tornTo_get (os ns ps : List Int) (k : Nat) (hk : k < ns.length) : (tornTo os ns ps k).getD k 0 = ns.getD k 0 := by
  unfold tornTo; simp [List.getD, hk]
theorem tornTo_length (os ns ps : List Int) (k : Nat) : (tornTo os ns ps k).length = ns.length := by simp [tornTo]

set_option maxRecDepth 100000 in
set_option maxHeartbeats 1600000 in
theorem torn_any (A1 A2 A3 : Option Addr) (n1 c1 n2 c2 n3 c3 : Nat) (os ns ps : List Int) (w : World) (h1 : Bs w A1 n1 c1 os) (h2 : Bs w A2 n2 c2 ns) (h3 : Bs w A3 n3 c3 ps) (hn : n2 ≤ 140737488355328) :
    Calls Try.prog 62 #[.slice A1 n1 c1, .slice A2 n2 c2, .slice A3 n3 c3] w (Cloned w (tornN os ns ps)) := by
  have HC := Lib.hid (can_any A1 A2 n1 c1 n2 c2 os ns w h1 h2)
  cases hc : canN os ns with
  | false =>
    rw [hc] at HC
    have fin : tornN os ns ps = [] := by simp [tornN, hc]
    have FIN := Lib.hid fin
    clear fin hc h1 h2 h3
    go_enter Try.func62, Try.ntmps62
    go_wp2_with fail
    refine HC.out.mono ?_
    rintro e w1 ⟨rfl, m, rfl⟩
    go_wp2
    go_ret
    rw [FIN.out]
    exact ⟨_, rfl, Own.nil _ _, (Keeps.refl _ _).drewN m⟩
  | true =>
    rw [hc] at HC
    have hlen : os.length = ns.length := by simp only [canN, decide_eq_true_eq] at hc; exact hc.1
    have fin : tornN os ns ps = tornTo os ns ps ns.length := by simp [tornN, hc]
    have HK := Lib.hid fun m => clone_any A2 n2 c2 ns (w.drewN m) (h2.drewN m) hn
    have FIN := Lib.hid fin
    have hl1 := h1.len
    have hl2 := h2.len
    have e12 : n1 = n2 := by omega
    have hb2 := h2.byte
    have H1 := Lib.hid h1
    have H3 := Lib.hid h3
    have hle1 := h1.le
    have hmx1 := h1.max
    clear fin hc h1 h2 h3
    subst e12
    have HL1 := Lib.hid hl1
    have HL2 := Lib.hid hl2
    have HB2 := Lib.hid hb2
    clear hlen hl1 hl2 hb2
    go_enter Try.func62, Try.ntmps62
    go_wp2_with fail
    refine HC.out.mono ?_
    rintro e w1 ⟨rfl, m, rfl⟩
    go_wp2_with fail
    refine (HK.out m).mono ?_
    rintro e w1 ⟨v, rfl, ho, hk⟩
    obtain ⟨A, cap, hv, hbs, hfr⟩ := ho.shape
    rw [HL2.out] at hv hbs
    subst hv
    have hle := hbs.le
    have hmx := hbs.max
    have k1 : Keeps None w w1 := ⟨hk.os, hk.tape, hk.output, hk.size, hk.block⟩
    have HO := Lib.hid ho
    clear ho hbs hfr hk HC HK
    go_wp2
    go_loopw [17] (fun i wr => ∃ k : Nat, k ≤ n1 ∧ i = .int .i64 k ∧ Own wr w.heap.size (.slice A n1 cap) (tornTo os ns ps k) ∧ Keeps (fun b => w.heap.size ≤ b) w wr) (fun i _ => n1 - (intOf i).toNat)
    case atStart => exact ⟨0, Nat.zero_le _, rfl, by rw [tornTo_zero]; exact HO.out, k1.ofNone⟩
    case round =>
      obtain ⟨k, hkn, rfl, hO, hK⟩ := hrel
      by_cases hlt : k < n1
      · obtain ⟨g, rfl, hg1, hg2, hgl, hle', hmx', hgc, hgf⟩ := hO.at_ hlt
        obtain ⟨b1, o1, z1, rfl, g1, z1a, z1b, cc0⟩ := H1.out.get hlt
        have hb1 : b1 < w.heap.size := by obtain ⟨b, off, e, hb, _⟩ := H1.out.at_ (by omega); cases e; exact hb
        have cc1 := (hK.cell (p := ⟨b1, o1 + k, none⟩) hb1 (by simp; exact hb1)).trans cc0
        have hP : Bs wr A3 n3 c3 ps := H3.out.later hK
        have hT : tornTo os ns ps k = tornTo os ns ps k := rfl
        have z2b := byte_getD HB2.out k
        rw [tornTo_get os ns ps k (by rw [HL2.out]; exact hlt)] at hgc
        have z3b := byte_getD hP.byte k
        have HT := Lib.hid (show bits .or .u8 (ns.getD k 0) (bits .and .u8 z1 (ps.getD k 0)) = tornAt os ns ps k from by rw [tornAt, g1])
        have NA := Lib.hid (nat_any A3 n3 c3 ps k wr.drew hP.drew (by omega))
        have z13 := bits_and_bd z1 (ps.getD k 0) ⟨z1a, z1b⟩ z3b
        have z4 := bits_or_bd (ns.getD k 0) _ z2b z13
        generalize ns.getD k 0 = z2 at *
        generalize ps.getD k 0 = z3 at *
        have HO2 := Lib.hid (hO.store rfl k _ z4 (by rw [tornTo_length, HL2.out]; exact hlt))
        have HK2 := Lib.hid hK
        clear hO hK hP hT g1 HO hgl
        go_wp2
        obtain ⟨mS, mh⟩ : ∃ S : World → Prop, ∀ w', S w' ↔ (w'.cell? ⟨g, k, none⟩ = some (.int .u8 z2) ∧ w'.cell? ⟨b1, o1 + k, none⟩ = some (.int .u8 z1)) := ⟨_, fun _ => Iff.rfl⟩
        have mk0 : ∀ x : Memb mS, x.at_.cell? ⟨g, k, none⟩ = some (.int .u8 z2) := fun x => ((mh _).1 x.is).1
        have mk1 : ∀ x : Memb mS, x.at_.cell? ⟨b1, o1 + k, none⟩ = some (.int .u8 z1) := fun x => ((mh _).1 x.is).2
        have mn : Nonempty (Memb mS) := ⟨⟨(wr).drew, (mh _).2 ⟨hgc, cc1⟩⟩⟩
        have mH := Lib.hid mh
        clear mh
        refine wp_region_mix [10, 14] (InS mS) (by kernel_rfl) (by kernel_rfl) (InS.mk ((mH.out _).2 ⟨hgc, cc1⟩)) ?_
        refine wpMix_seg 10 (by kernel_rfl) (by decide) ?_
        simp only [List.take_succ_cons, List.take_zero, List.drop_succ_cons, List.drop_zero]
        repeat (go_big_quiet_step (fail))
        refine wpQuiet_nil ?_
        refine wpMix_eff (by kernel_rfl) ?_
        go_wp2_with fail
        refine NA.out.mono ?_
        rintro e w3 ⟨rfl, rfl⟩
        go_wp2
        refine MixK.on (InS.mk ((mH.out _).2 ⟨hgc, cc1⟩)) ?_
        refine wpMix_seg 3 (by kernel_rfl) (by decide) ?_
        simp only [List.take_succ_cons, List.take_zero, List.drop_succ_cons, List.drop_zero]
        repeat (go_big_quiet_step (fail))
        refine wpQuiet_nil ?_
        refine wpMix_eff (by kernel_rfl) ?_
        go_wp2
        refine MixK.last (by kernel_rfl) ?_
        refine wpMix_nil ?_
        clear mk0 mk1 mn mH
        go_wp2
        go_roundw
        case rel =>
          refine ⟨k + 1, by omega, by go_num, ?_, ?_⟩
          · rw [← tornTo_succ os ns ps k (by rw [HL2.out]; exact hlt), ← HT.out]; exact HO2.out.drew
          · exact (HK2.out.setCell _ _ (fun _ => hg1)).drew
        case measure => simp [intOf]; omega
      · have e : k = n1 := by omega
        subst e
        have fin : tornTo os ns ps k = tornN os ns ps := by rw [FIN.out, HL2.out]
        have FIN2 := Lib.hid fin
        have HO2 := Lib.hid hO
        have HK2 := Lib.hid hK
        clear hO hK fin HO
        go_wp2
        go_ret
        exact ⟨_, rfl, by rw [← FIN2.out]; exact HO2.out, HK2.out.mono (fun i hi h => absurd h (Nat.not_le.2 hi))⟩

/-- May bytes be seen when power went while they were programmed? -/
def betweenN (os ns ss : List Int) : Bool := canN os ns && canN os ss && canN ss ns

theorem Told.to {b b' : Bool} {w w' : World} {n : Nat} {e : Ending} (h : Told b (w.drewN n) e w') (hb : b = b') : Told b' w e w' := by
  obtain ⟨h1, m, h2⟩ := h
  exact ⟨by rw [← hb]; exact h1, n + m, by rw [h2, World.drewN_drewN]⟩

end Go.Proofs.Ytgehkioneelgcaa
/- The walks of package nor: Half, Blank, IsBlank; the law's alive and Short. -/
namespace Go.Proofs.Ytgehkioneelgcaa
open Go.RowKit

/-- What stands there when power went while bytes were erased. -/
def halfAt (os ps : List Int) (i : Nat) : Int := bits .or .u8 (os.getD i 0) (ps.getD i 0)
def halfTo (os ps : List Int) (k : Nat) : List Int := (List.range os.length).map fun i => if i < k then halfAt os ps i else os.getD i 0
def halfN (os ps : List Int) : List Int := halfTo os ps os.length
theorem halfTo_zero (os ps : List Int) : halfTo os ps 0 = os := by
  unfold halfTo
  apply List.ext_getElem?
  intro i
  by_cases hi : i < os.length
  · simp [hi]
  · simp [hi]
theorem halfTo_succ (os ps : List Int) (k : Nat) (hk : k < os.length) : (halfTo os ps k).set k (halfAt os ps k) = halfTo os ps (k + 1) := by
  unfold halfTo
  rw [range_set _ _ _ _ hk]
  refine List.map_congr_left fun i _ => ?_
  by_cases h : i = k
  · subst h; simp
  · by_cases h2 : i < k
    · simp [h, h2, show i < k + 1 by omega]
    · simp [h, h2, show ¬ i < k + 1 by omega]
theorem halfTo_get (os ps : List Int) (k : Nat) (hk : k < os.length) : (halfTo os ps k).getD k 0 = os.getD k 0 := by
  unfold halfTo; simp [List.getD, hk]
theorem halfTo_length (os ps : List Int) (k : Nat) : (halfTo os ps k).length = os.length := by simp [halfTo]

set_option maxRecDepth 100000 in
set_option maxHeartbeats 1600000 in
theorem half_any (A1 A3 : Option Addr) (n1 c1 n3 c3 : Nat) (os ps : List Int) (w : World) (h1 : Bs w A1 n1 c1 os) (h3 : Bs w A3 n3 c3 ps) (hn : n1 ≤ 140737488355328) :
    Calls Try.prog 69 #[.slice A1 n1 c1, .slice A3 n3 c3] w (Cloned w (halfN os ps)) := by
  have HK := Lib.hid (clone_any A1 n1 c1 os w h1 hn)
  have hl2 := h1.len
  have hb2 := h1.byte
  have H3 := Lib.hid h3
  clear h1 h3
  have FIN : Hid (halfN os ps = halfTo os ps os.length) := rfl
  have HL2 := Lib.hid hl2
  have HB2 := Lib.hid hb2
  clear hl2 hb2
  go_enter Try.func69, Try.ntmps69
  go_wp2_with fail
  refine HK.out.mono ?_
  rintro e w1 ⟨v, rfl, ho, hk⟩
  obtain ⟨A, cap, hv, hbs, hfr⟩ := ho.shape
  rw [HL2.out] at hv hbs
  subst hv
  have hle := hbs.le
  have hmx := hbs.max
  have HO := Lib.hid ho
  have K1 := Lib.hid hk
  clear ho hbs hfr hk HK
  go_wp2
  go_loopw [11] (fun i wr => ∃ k : Nat, k ≤ n1 ∧ i = .int .i64 k ∧ Own wr w.heap.size (.slice A n1 cap) (halfTo os ps k) ∧ Keeps (fun b => w.heap.size ≤ b) w wr) (fun i _ => n1 - (intOf i).toNat)
  case atStart => exact ⟨0, Nat.zero_le _, rfl, by rw [halfTo_zero]; exact HO.out, K1.out.ofNone⟩
  case round =>
    obtain ⟨k, hkn, rfl, hO, hK⟩ := hrel
    by_cases hlt : k < n1
    · obtain ⟨g, rfl, hg1, hg2, hgl, hle', hmx', hgc, hgf⟩ := hO.at_ hlt
      have hP : Bs wr A3 n3 c3 ps := H3.out.later hK
      have z2b := byte_getD HB2.out k
      rw [halfTo_get os ps k (by rw [HL2.out]; exact hlt)] at hgc
      have z3b := byte_getD hP.byte k
      have HT : Hid (bits .or .u8 (os.getD k 0) (ps.getD k 0) = halfAt os ps k) := rfl
      have NA := Lib.hid (nat_any A3 n3 c3 ps k wr.drew hP.drew (by omega))
      have z4 := bits_or_bd (os.getD k 0) _ z2b z3b
      generalize os.getD k 0 = z2 at *
      generalize ps.getD k 0 = z3 at *
      have HO2 := Lib.hid (hO.store rfl k _ z4 (by rw [halfTo_length, HL2.out]; exact hlt))
      have HK2 := Lib.hid hK
      clear hO hK hP HO hgl
      go_wp2
      obtain ⟨mS, mh⟩ : ∃ S : World → Prop, ∀ w', S w' ↔ (w'.cell? ⟨g, k, none⟩ = some (.int .u8 z2)) := ⟨_, fun _ => Iff.rfl⟩
      have mk0 : ∀ x : Memb mS, x.at_.cell? ⟨g, k, none⟩ = some (.int .u8 z2) := fun x => ((mh _).1 x.is)
      have mn : Nonempty (Memb mS) := ⟨⟨(wr).drew, (mh _).2 (hgc)⟩⟩
      have mH := Lib.hid mh
      clear mh
      refine wp_region_mix [6, 9] (InS mS) (by kernel_rfl) (by kernel_rfl) (InS.mk ((mH.out _).2 (hgc))) ?_
      refine wpMix_seg 6 (by kernel_rfl) (by decide) ?_
      simp only [List.take_succ_cons, List.take_zero, List.drop_succ_cons, List.drop_zero]
      repeat (go_big_quiet_step (fail))
      refine wpQuiet_nil ?_
      refine wpMix_eff (by kernel_rfl) ?_
      go_wp2_with fail
      refine NA.out.mono ?_
      rintro e w3 ⟨rfl, rfl⟩
      go_wp2
      refine MixK.on (InS.mk ((mH.out _).2 (hgc))) ?_
      refine wpMix_seg 2 (by kernel_rfl) (by decide) ?_
      simp only [List.take_succ_cons, List.take_zero, List.drop_succ_cons, List.drop_zero]
      repeat (go_big_quiet_step (fail))
      refine wpQuiet_nil ?_
      refine wpMix_eff (by kernel_rfl) ?_
      go_wp2
      refine MixK.last (by kernel_rfl) ?_
      refine wpMix_nil ?_
      clear mk0 mn mH
      go_wp2
      go_roundw
      case rel =>
        refine ⟨k + 1, by omega, by go_num, ?_, ?_⟩
        · rw [← halfTo_succ os ps k (by rw [HL2.out]; exact hlt), ← HT.out]; exact HO2.out.drew
        · exact (HK2.out.setCell _ _ (fun _ => hg1)).drew
      case measure => simp [intOf]; omega
    · have e : k = n1 := by omega
      subst e
      have fin : halfTo os ps k = halfN os ps := by rw [FIN.out, HL2.out]
      have FIN2 := Lib.hid fin
      have HO2 := Lib.hid hO
      have HK2 := Lib.hid hK
      clear hO hK fin HO
      go_wp2
      go_ret
      exact ⟨_, rfl, by rw [← FIN2.out]; exact HO2.out, HK2.out.mono (fun i hi h => absurd h (Nat.not_le.2 hi))⟩

/-- How many blank bytes. -/
def blankN (n : Int) : List Int := List.replicate (max 0 (min n 65536)).toNat 255
/-- k bytes laid blank, the rest 0. -/
def blankTo (n k : Nat) : List Int := List.replicate k 255 ++ List.replicate (n - k) 0
theorem blankTo_set (n k : Nat) (h : k < n) : (blankTo n k).set k 255 = blankTo n (k + 1) := by
  unfold blankTo
  obtain ⟨m, rfl⟩ : ∃ m, n = k + 1 + m := ⟨n - (k + 1), by omega⟩
  rw [show k + 1 + m - k = m + 1 by omega, show k + 1 + m - (k + 1) = m by omega, List.replicate_succ, List.set_append]
  simp [List.replicate_succ', List.append_assoc]
theorem blankTo_length (n k : Nat) (h : k ≤ n) : (blankTo n k).length = n := by simp [blankTo]; omega
theorem blankTo_zero (n : Nat) : blankTo n 0 = List.replicate n 0 := by simp [blankTo]
theorem blankTo_all (n : Nat) : blankTo n n = List.replicate n 255 := by simp [blankTo]

set_option maxRecDepth 100000 in
set_option maxHeartbeats 800000 in
theorem blank_mid (n : Int)  (m : Nat) (w : World) (hm : m ≤ 65536) (hn : 0 < n ∧ n ≤ 65536) (hL : n = (m : Int))  :
    Calls Try.prog 21 #[.int .i64 n] w (Cloned w (List.replicate m 255)) := by
  have hmk := fun w => run_make_blk (P := Try.prog) 24 5 (.int .u8 0) 1 Try.underlying24 Try.info5 rfl .i64 .i64 _ _ m hL hL (by omega) (by omega) w
  clear hL
  go_enter Try.func21, Try.ntmps21
  go_wp2_with fail
  go_loopw [11] (fun i wr => ∃ k : Nat, k ≤ m ∧ i = .int .i64 k ∧ Blk wr w.heap.size ((blankTo m k).map (.int .u8)) 5 ∧ Keeps None w wr) (fun i _ => m - (intOf i).toNat)
  case atStart =>
    refine ⟨0, Nat.zero_le _, rfl, ?_, (Keeps.refl _ _).alloc _⟩
    have := Blk.new w (List.replicate m (.int .u8 0)) 5
    rw [blankTo_zero]
    simpa using this
  case round =>
    obtain ⟨k, hk, rfl, hb, hkp⟩ := hrel
    have HB := Lib.hid hb
    by_cases hlt : k < m
    · have c2 := hb.cellD k _ (map_getD 0 (show k < (blankTo m k).length by rw [blankTo_length m k hk]; exact hlt))
      have c3 := hb.frozen k
      clear hb
      go_wp2
      go_roundw
      case rel =>
        refine ⟨k + 1, by omega, by go_num, ?_, hkp.setCell _ _ (by simp)⟩
        have := HB.out.set k (.int .u8 255)
        rw [← blankTo_set m k hlt, List.map_set]; exact this
      case measure => simp [intOf]; omega
    · clear hb
      obtain rfl : k = m := by omega
      have fin : Own wr w.heap.size (.slice (some ⟨w.heap.size, 0, none⟩) k k) (List.replicate k 255) := by
        have hb := HB.out
        rw [blankTo_all] at hb
        refine ⟨⟨by simp, .inr ⟨w.heap.size, k, _, by simp, Nat.le_refl _, hb, by simp, by unfold maxLen; omega, by simp, by simp⟩⟩, fun z hz => ?_⟩
        rw [(List.mem_replicate.1 hz).2]; decide
      have FIN := Lib.hid fin
      clear fin
      go_wp2
      go_ret
      exact ⟨_, rfl, FIN.out, hkp⟩
set_option maxRecDepth 100000 in
set_option maxHeartbeats 800000 in
theorem blank_low (n : Int)  (m : Nat) (w : World) (hm : m ≤ 65536) (hn : n ≤ 0) (hL : 0 = (m : Int))  :
    Calls Try.prog 21 #[.int .i64 n] w (Cloned w (List.replicate m 255)) := by
  have hmk := fun w => run_make_blk (P := Try.prog) 24 5 (.int .u8 0) 1 Try.underlying24 Try.info5 rfl .i64 .i64 _ _ m hL hL (by omega) (by omega) w
  clear hL
  go_enter Try.func21, Try.ntmps21
  go_wp2_with fail
  go_loopw [11] (fun i wr => ∃ k : Nat, k ≤ m ∧ i = .int .i64 k ∧ Blk wr w.heap.size ((blankTo m k).map (.int .u8)) 5 ∧ Keeps None w wr) (fun i _ => m - (intOf i).toNat)
  case atStart =>
    refine ⟨0, Nat.zero_le _, rfl, ?_, (Keeps.refl _ _).alloc _⟩
    have := Blk.new w (List.replicate m (.int .u8 0)) 5
    rw [blankTo_zero]
    simpa using this
  case round =>
    obtain ⟨k, hk, rfl, hb, hkp⟩ := hrel
    have HB := Lib.hid hb
    by_cases hlt : k < m
    · have c2 := hb.cellD k _ (map_getD 0 (show k < (blankTo m k).length by rw [blankTo_length m k hk]; exact hlt))
      have c3 := hb.frozen k
      clear hb
      go_wp2
      go_roundw
      case rel =>
        refine ⟨k + 1, by omega, by go_num, ?_, hkp.setCell _ _ (by simp)⟩
        have := HB.out.set k (.int .u8 255)
        rw [← blankTo_set m k hlt, List.map_set]; exact this
      case measure => simp [intOf]; omega
    · clear hb
      obtain rfl : k = m := by omega
      have fin : Own wr w.heap.size (.slice (some ⟨w.heap.size, 0, none⟩) k k) (List.replicate k 255) := by
        have hb := HB.out
        rw [blankTo_all] at hb
        refine ⟨⟨by simp, .inr ⟨w.heap.size, k, _, by simp, Nat.le_refl _, hb, by simp, by unfold maxLen; omega, by simp, by simp⟩⟩, fun z hz => ?_⟩
        rw [(List.mem_replicate.1 hz).2]; decide
      have FIN := Lib.hid fin
      clear fin
      go_wp2
      go_ret
      exact ⟨_, rfl, FIN.out, hkp⟩
set_option maxRecDepth 100000 in
set_option maxHeartbeats 800000 in
theorem blank_high (n : Int)  (m : Nat) (w : World) (hm : m ≤ 65536) (hn : 65536 < n) (hL : 65536 = (m : Int))  :
    Calls Try.prog 21 #[.int .i64 n] w (Cloned w (List.replicate m 255)) := by
  have hmk := fun w => run_make_blk (P := Try.prog) 24 5 (.int .u8 0) 1 Try.underlying24 Try.info5 rfl .i64 .i64 _ _ m hL hL (by omega) (by omega) w
  clear hL
  go_enter Try.func21, Try.ntmps21
  go_wp2_with fail
  go_loopw [11] (fun i wr => ∃ k : Nat, k ≤ m ∧ i = .int .i64 k ∧ Blk wr w.heap.size ((blankTo m k).map (.int .u8)) 5 ∧ Keeps None w wr) (fun i _ => m - (intOf i).toNat)
  case atStart =>
    refine ⟨0, Nat.zero_le _, rfl, ?_, (Keeps.refl _ _).alloc _⟩
    have := Blk.new w (List.replicate m (.int .u8 0)) 5
    rw [blankTo_zero]
    simpa using this
  case round =>
    obtain ⟨k, hk, rfl, hb, hkp⟩ := hrel
    have HB := Lib.hid hb
    by_cases hlt : k < m
    · have c2 := hb.cellD k _ (map_getD 0 (show k < (blankTo m k).length by rw [blankTo_length m k hk]; exact hlt))
      have c3 := hb.frozen k
      clear hb
      go_wp2
      go_roundw
      case rel =>
        refine ⟨k + 1, by omega, by go_num, ?_, hkp.setCell _ _ (by simp)⟩
        have := HB.out.set k (.int .u8 255)
        rw [← blankTo_set m k hlt, List.map_set]; exact this
      case measure => simp [intOf]; omega
    · clear hb
      obtain rfl : k = m := by omega
      have fin : Own wr w.heap.size (.slice (some ⟨w.heap.size, 0, none⟩) k k) (List.replicate k 255) := by
        have hb := HB.out
        rw [blankTo_all] at hb
        refine ⟨⟨by simp, .inr ⟨w.heap.size, k, _, by simp, Nat.le_refl _, hb, by simp, by unfold maxLen; omega, by simp, by simp⟩⟩, fun z hz => ?_⟩
        rw [(List.mem_replicate.1 hz).2]; decide
      have FIN := Lib.hid fin
      clear fin
      go_wp2
      go_ret
      exact ⟨_, rfl, FIN.out, hkp⟩
theorem blank_any (n : Int) (w : World) : Calls Try.prog 21 #[.int .i64 n] w (Cloned w (blankN n)) := by
  unfold blankN
  by_cases h1 : n ≤ 0
  · have e : (max 0 (min n 65536)).toNat = 0 := by omega
    rw [e]
    exact blank_low n 0 w (by omega) h1 rfl
  · by_cases h2 : n ≤ 65536
    · have e : (max 0 (min n 65536)).toNat = n.toNat := by omega
      rw [e]
      exact blank_mid n n.toNat w (by omega) ⟨by omega, h2⟩ (by omega)
    · have e : (max 0 (min n 65536)).toNat = 65536 := by omega
      rw [e]
      exact blank_high n 65536 w (by omega) (by omega) rfl
/-! ### IsBlank -/
def blankB (zs : List Int) : Bool := decide (∀ i, i < zs.length → zs.getD i 0 = 255)

set_option maxHeartbeats 400000 in
theorem isBlank1_any (z : Int) (w : World) : Calls Try.prog 68 #[.int .u8 z] w fun e w' => e = .returned (.bool (z != 255)) ∧ w = w' := by
  go_enter Try.func68, Try.ntmps68
  go_wp2
  all_goals (go_ret; exact ⟨rfl, rfl⟩)

/-- The index at which a byte is not blank. -/
def Indexed (zs : List Int) (w : World) (e : Ending) (w' : World) : Prop := ∃ i : Int, e = .returned (.int .i64 i) ∧ w = w' ∧ -1 ≤ i ∧ i < 9223372036854775807 ∧ (0 ≤ i ↔ blankB zs = false)

set_option maxRecDepth 100000 in
set_option maxHeartbeats 800000 in
theorem indexFunc_any (A : Option Addr) (n cap : Nat) (zs : List Int) (w : World) (h : Bs w A n cap zs) :
    Calls Try.prog 73 #[.slice A n cap, .func (.func 68) #[] #[]] w (Indexed zs w) := by
  have m1 := h.le
  have m2 := h.max
  have H := Lib.hid h
  clear h
  go_enter Try.func73, Try.ntmps73
  go_wp2
  go_loop [8] (fun i => ∃ k : Nat, k ≤ n ∧ i = .int .i64 k ∧ ∀ i, i < k → zs.getD i 0 = 255) (fun i => n - (intOf i).toNat)
  case atStart => exact ⟨0, Nat.zero_le _, rfl, fun i hi => by omega⟩
  case round =>
    obtain ⟨k, hkn, rfl, hall⟩ := hrel
    have HA := Lib.hid hall
    clear hall
    by_cases hlt : k < n
    · obtain ⟨b, off, z, rfl, g, z1, z2, cc⟩ := H.out.get hlt
      have G := Lib.hid g
      clear g
      by_cases hz : z = 255
      · have q : (z != 255) = false := by simp [hz]
        have HZ := Lib.hid hz
        clear hz
        go_wp2_with (go_at_call 68; refine (isBlank1_any _ _).mono ?_; rintro e w' ⟨rfl, rfl⟩)
        go_round
        case rel =>
          refine ⟨k + 1, by omega, by go_num, fun i hi => ?_⟩
          by_cases h : i = k
          · subst h; rw [G.out]; exact HZ.out
          · exact HA.out i (by omega)
        case measure => simp [intOf]; omega
      · have q : (z != 255) = true := by simp [hz]
        have fin : blankB zs = false := by
          simp only [blankB, decide_eq_false_iff_not]
          intro h
          exact hz (by rw [← G.out]; exact h k (by have := H.out.len; omega))
        have FIN := Lib.hid fin
        clear hz fin
        go_wp2_with (go_at_call 68; refine (isBlank1_any _ _).mono ?_; rintro e w' ⟨rfl, rfl⟩)
        go_ret
        exact ⟨k, rfl, rfl, by omega, by omega, fun _ => FIN.out, fun _ => by omega⟩
    · have fin : blankB zs = true := by
        simp only [blankB, decide_eq_true_eq]
        have l1 := H.out.len
        exact fun i hi => HA.out i (by omega)
      have FIN := Lib.hid fin
      clear fin
      go_wp2
      go_ret
      exact ⟨-1, rfl, rfl, by omega, by omega, fun h => by omega, fun h => by rw [FIN.out] at h; cases h⟩

set_option maxRecDepth 100000 in
set_option maxHeartbeats 800000 in
theorem containsFunc_any (A : Option Addr) (n cap : Nat) (zs : List Int) (w : World) (h : Bs w A n cap zs) :
    Calls Try.prog 67 #[.slice A n cap, .func (.func 68) #[] #[]] w fun e w' => e = .returned (.bool (!blankB zs)) ∧ w = w' := by
  have HI := Lib.hid (indexFunc_any A n cap zs w h)
  clear h
  go_enter Try.func67, Try.ntmps67
  go_wp2_with fail
  refine HI.out.mono ?_
  rintro e w1 ⟨i, rfl, rfl, i1, i2, i3⟩
  have fin : decide (0 ≤ i) = !blankB zs := by
    cases hb : blankB zs
    · simp [hb] at i3 ⊢; exact i3
    · simp [hb] at i3 ⊢; exact i3
  have FIN := Lib.hid fin
  clear i3 fin
  go_wp2
  go_ret
  exact ⟨ret_bool FIN.out, rfl⟩

set_option maxHeartbeats 400000 in
theorem isBlank_any (A : Option Addr) (n cap : Nat) (zs : List Int) (w : World) (h : Bs w A n cap zs) :
    Calls Try.prog 53 #[.slice A n cap] w fun e w' => e = .returned (.bool (blankB zs)) ∧ w = w' := by
  have HI := Lib.hid (containsFunc_any A n cap zs w h)
  clear h
  generalize blankB zs = b at *
  go_enter Try.func53, Try.ntmps53
  go_wp2_with fail
  refine HI.out.mono ?_
  rintro e w1 ⟨rfl, rfl⟩
  go_wp2
  go_ret
  exact ⟨ret_bool (by simp), rfl⟩

end Go.Proofs.Ytgehkioneelgcaa
/- The law NorOrder walked to the value true. -/
namespace Go.Proofs.Ytgehkioneelgcaa
open Go.RowKit

/-! ### The plain law: what can be programmed goes one way. -/
theorem andNot_zero (a b : Nat) (ha : a < 256) (hb : b < 256) : a &&& (255 - b) = 0 ↔ a &&& b = a := by
  have e : ∀ i, (255 - b).testBit i = (decide (i < 8) && !b.testBit i) := fun i => by
    have := Nat.testBit_two_pow_sub_succ (x := b) (n := 8) hb i
    rwa [show 2 ^ 8 - (b + 1) = 255 - b by omega] at this
  have ha8 : ∀ i, a.testBit i = true → i < 8 := fun i hi => by
    rcases Nat.lt_or_ge i 8 with h | h
    · exact h
    · rw [Nat.testBit_lt_two_pow (Nat.lt_of_lt_of_le ha (by have := Nat.pow_le_pow_right (show 0 < 2 by decide) h; simpa using this))] at hi; cases hi
  constructor
  · intro h
    apply Nat.eq_of_testBit_eq
    intro i
    have h2 : (a &&& (255 - b)).testBit i = false := by rw [h]; simp
    rw [Nat.testBit_and, e] at h2
    rw [Nat.testBit_and]
    cases hai : a.testBit i
    · simp
    · have := ha8 i hai
      simpa [hai, this] using h2
  · intro h
    apply Nat.eq_of_testBit_eq
    intro i
    have h2 : (a &&& b).testBit i = a.testBit i := by rw [h]
    rw [Nat.testBit_and] at h2
    rw [Nat.testBit_and, e]
    cases hai : a.testBit i
    · simp
    · rw [hai] at h2
      have : b.testBit i = true := by simpa using h2
      simp [this]
theorem bits_andNot_zero (a b : Int) (ha : 0 ≤ a ∧ a ≤ 255) (hb : 0 ≤ b ∧ b ≤ 255) : bits .andNot .u8 a b = 0 ↔ a.toNat &&& b.toNat = a.toNat := by
  rw [u8_andNot a b ha.1 (by omega) hb.1 (by omega)]
  have := andNot_zero a.toNat b.toNat (by omega) (by omega)
  constructor
  · intro h; exact this.1 (by omega)
  · intro h; have := this.2 h; omega
theorem canN_iff {os ns : List Int} (ho : ∀ z ∈ os, 0 ≤ z ∧ z ≤ 255) (hn : ∀ z ∈ ns, 0 ≤ z ∧ z ≤ 255) :
    canN os ns = true ↔ os.length = ns.length ∧ ∀ i, (ns.getD i 0).toNat &&& (os.getD i 0).toNat = (ns.getD i 0).toNat := by
  simp only [canN, decide_eq_true_eq]
  constructor
  · rintro ⟨h1, h2⟩
    refine ⟨h1, fun i => ?_⟩
    by_cases hi : i < os.length
    · exact (bits_andNot_zero _ _ (byte_getD hn i) (byte_getD ho i)).1 (h2 i hi)
    · have e1 : ns.getD i 0 = 0 := by simp [List.getD, List.getElem?_eq_none (show ns.length ≤ i by omega)]
      rw [e1]; simp
  · rintro ⟨h1, h2⟩
    exact ⟨h1, fun i _ => (bits_andNot_zero _ _ (byte_getD hn i) (byte_getD ho i)).2 (h2 i)⟩
theorem canN_refl {os : List Int} (ho : ∀ z ∈ os, 0 ≤ z ∧ z ≤ 255) : canN os os = true := (canN_iff ho ho).2 ⟨rfl, fun i => Nat.and_self _⟩
theorem canN_anti {os ns : List Int} (ho : ∀ z ∈ os, 0 ≤ z ∧ z ≤ 255) (hn : ∀ z ∈ ns, 0 ≤ z ∧ z ≤ 255) (h1 : canN os ns = true) (h2 : canN ns os = true) : os = ns := by
  obtain ⟨l1, h1⟩ := (canN_iff ho hn).1 h1
  obtain ⟨_, h2⟩ := (canN_iff hn ho).1 h2
  apply List.ext_getElem?
  intro i
  by_cases hi : i < os.length
  · have e : (os.getD i 0).toNat = (ns.getD i 0).toNat := by
      have a1 := h1 i
      have a2 := h2 i
      rw [Nat.and_comm] at a2
      omega
    have b1 := byte_getD ho i
    have b2 := byte_getD hn i
    have : os.getD i 0 = ns.getD i 0 := by omega
    rw [getD_get 0 hi, getD_get 0 (show i < ns.length by omega)] at this
    rw [List.getElem?_eq_getElem hi, List.getElem?_eq_getElem (show i < ns.length by omega), this]
  · rw [List.getElem?_eq_none (by omega), List.getElem?_eq_none (by omega)]
theorem canN_trans {zs bs cs : List Int} (ha : ∀ z ∈ zs, 0 ≤ z ∧ z ≤ 255) (hb : ∀ z ∈ bs, 0 ≤ z ∧ z ≤ 255) (hc : ∀ z ∈ cs, 0 ≤ z ∧ z ≤ 255) (h1 : canN zs bs = true) (h2 : canN bs cs = true) : canN zs cs = true := by
  obtain ⟨l1, h1⟩ := (canN_iff ha hb).1 h1
  obtain ⟨l2, h2⟩ := (canN_iff hb hc).1 h2
  refine (canN_iff ha hc).2 ⟨by omega, fun i => ?_⟩
  rw [← h2 i, Nat.and_assoc, h1 i]

/-! ### The law's walk -/
/-- A bool is told, and nothing has changed that was there when the law began. -/
def ToldB (b : Bool) (W : World) (e : Ending) (w' : World) : Prop := e = .returned (.bool b) ∧ Hid (Below W.heap.size W w')
theorem told_below {W w : World} {b : Bool} {f : FuncId} {args : Array Value} (hb : Below W.heap.size W w) (h : Calls Try.prog f args w (Told b w)) : Calls Try.prog f args w (ToldB b W) :=
  h.mono fun _ _ ⟨h1, m, h2⟩ => ⟨h1, by rw [h2]; exact below_drewN hb m⟩
theorem same_below {W w : World} {b : Bool} {f : FuncId} {args : Array Value} (hb : Below W.heap.size W w) (h : Calls Try.prog f args w fun e w' => e = .returned (.bool b) ∧ w = w') : Calls Try.prog f args w (ToldB b W) :=
  h.mono fun _ _ ⟨h1, h2⟩ => ⟨h1, by rw [← h2]; exact hb⟩
theorem bs_below {W w : World} {A : Option Addr} {n cap : Nat} {zs : List Int} (h : Bs W A n cap zs) (hb : Below W.heap.size W w) : Bs w A n cap zs :=
  h.later ⟨hb.os, hb.tape, hb.output, hb.size, fun k hk _ => hb.block k hk⟩


end Go.Proofs.Ytgehkioneelgcaa
/- The law NorTwice: its walk. -/
namespace Go.Proofs.Ytgehkioneelgcaa
open Go.RowKit

/-! ### A row whose first k bytes are edited -/
def edTo (f : Nat → Int) (os : List Int) (k : Nat) : List Int := (List.range os.length).map fun i => if i < k then f i else os.getD i 0
theorem edTo_zero (f : Nat → Int) (os : List Int) : edTo f os 0 = os := by
  unfold edTo
  apply List.ext_getElem?
  intro i
  by_cases hi : i < os.length <;> simp [List.getD, hi]
theorem edTo_succ (f : Nat → Int) (os : List Int) (k : Nat) (hk : k < os.length) : (edTo f os k).set k (f k) = edTo f os (k + 1) := by
  unfold edTo
  rw [range_set _ _ _ _ hk]
  refine List.map_congr_left fun i _ => ?_
  by_cases h1 : i = k
  · subst h1; simp
  · by_cases h2 : i < k
    · rw [if_neg h1, if_pos h2, if_pos (by omega)]
    · rw [if_neg h1, if_neg h2, if_neg (by omega)]
theorem edTo_length (f : Nat → Int) (os : List Int) (k : Nat) : (edTo f os k).length = os.length := by simp [edTo]
theorem edTo_getD (f : Nat → Int) (os : List Int) (k i : Nat) : (edTo f os k).getD i 0 = if i < os.length then (if i < k then f i else os.getD i 0) else 0 := by
  by_cases hi : i < os.length <;> simp [edTo, List.getD, hi]
theorem edTo_byte {f : Nat → Int} {os : List Int} (k : Nat) (ho : ∀ z ∈ os, 0 ≤ z ∧ z ≤ 255) (hf : ∀ i, 0 ≤ f i ∧ f i ≤ 255) : ∀ z ∈ edTo f os k, 0 ≤ z ∧ z ≤ 255 := by
  intro z hz
  obtain ⟨i, _, rfl⟩ := List.mem_map.1 hz
  split
  · exact hf i
  · exact byte_getD ho i

def andAt (os ns : List Int) (i : Nat) : Int := bits .and .u8 (os.getD i 0) (ns.getD i 0)
/-- What of os is left when the bits of ns are kept alone, where ns reaches. -/
def andN (os ns : List Int) : List Int := edTo (andAt os ns) os (min os.length ns.length)

theorem andN_byte {os ns : List Int} (ho : ∀ z ∈ os, 0 ≤ z ∧ z ≤ 255) (hn : ∀ z ∈ ns, 0 ≤ z ∧ z ≤ 255) : ∀ z ∈ andN os ns, 0 ≤ z ∧ z ≤ 255 :=
  edTo_byte _ ho fun i => bits_and_bd _ _ (byte_getD ho i) (byte_getD hn i)
theorem and_land (a b : Nat) : a &&& b &&& a = a &&& b := by
  apply Nat.eq_of_testBit_eq; intro i; simp only [Nat.testBit_and]; cases a.testBit i <;> simp
theorem land_lor (a b : Nat) : a &&& (a ||| b) = a := by
  apply Nat.eq_of_testBit_eq; intro i; simp only [Nat.testBit_and, Nat.testBit_or]; cases a.testBit i <;> simp
theorem canN_andN {os ns : List Int} (ho : ∀ z ∈ os, 0 ≤ z ∧ z ≤ 255) (hn : ∀ z ∈ ns, 0 ≤ z ∧ z ≤ 255) : canN os (andN os ns) = true := by
  refine (canN_iff ho (andN_byte ho hn)).2 ⟨by rw [andN, edTo_length], fun i => ?_⟩
  rw [andN, edTo_getD]
  split
  · split
    · have a := byte_getD ho i
      have b := byte_getD hn i
      rw [andAt, u8_and _ _ a.1 (by omega) b.1 (by omega), Int.toNat_natCast, and_land]
    · exact Nat.and_self _
  · simp
theorem tornTo_getD (os ns ps : List Int) (k i : Nat) : (tornTo os ns ps k).getD i 0 = if i < ns.length then (if i < k then tornAt os ns ps i else ns.getD i 0) else 0 := by
  by_cases hi : i < ns.length <;> simp [tornTo, List.getD, hi]
theorem tornAt_byte {os ns ps : List Int} (ho : ∀ z ∈ os, 0 ≤ z ∧ z ≤ 255) (hn : ∀ z ∈ ns, 0 ≤ z ∧ z ≤ 255) (hp : ∀ z ∈ ps, 0 ≤ z ∧ z ≤ 255) (i : Nat) : 0 ≤ tornAt os ns ps i ∧ tornAt os ns ps i ≤ 255 :=
  bits_or_bd _ _ (byte_getD hn i) (bits_and_bd _ _ (byte_getD ho i) (byte_getD hp i))
theorem tornN_byte {os ns ps : List Int} (ho : ∀ z ∈ os, 0 ≤ z ∧ z ≤ 255) (hn : ∀ z ∈ ns, 0 ≤ z ∧ z ≤ 255) (hp : ∀ z ∈ ps, 0 ≤ z ∧ z ≤ 255) : ∀ z ∈ tornN os ns ps, 0 ≤ z ∧ z ≤ 255 := by
  unfold tornN
  split
  · intro z hz
    obtain ⟨i, _, rfl⟩ := List.mem_map.1 hz
    split
    · exact tornAt_byte ho hn hp i
    · exact byte_getD hn i
  · simp
theorem canN_torn {os ns ps : List Int} (ho : ∀ z ∈ os, 0 ≤ z ∧ z ≤ 255) (hn : ∀ z ∈ ns, 0 ≤ z ∧ z ≤ 255) (hp : ∀ z ∈ ps, 0 ≤ z ∧ z ≤ 255) (hc : canN os ns = true) : canN (tornN os ns ps) ns = true := by
  refine (canN_iff (tornN_byte ho hn hp) hn).2 ⟨by rw [tornN, if_pos hc, tornTo_length], fun i => ?_⟩
  rw [tornN, if_pos hc, tornTo_getD]
  split
  · have a := byte_getD ho i
    have b := byte_getD hn i
    have c := byte_getD hp i
    have d := bits_and_bd _ _ a c
    rw [tornAt, u8_or _ _ b.1 (by omega) d.1 (by omega), Int.toNat_natCast, land_lor]
  · have e1 : ns.getD i 0 = 0 := by simp [List.getD, List.getElem?_eq_none (show ns.length ≤ i by omega)]
    rw [e1]; rfl
theorem blankN_byte (n : Int) : ∀ z ∈ blankN n, 0 ≤ z ∧ z ≤ 255 := by
  intro z hz; rw [List.eq_of_mem_replicate hz]; omega
theorem land_255 (a : Nat) (h : a ≤ 255) : a &&& 255 = a := by
  rw [show (255 : Nat) = 2 ^ 8 - 1 from rfl, Nat.and_two_pow_sub_one_eq_mod, Nat.mod_eq_of_lt (by omega)]
theorem canN_blank {os : List Int} (ho : ∀ z ∈ os, 0 ≤ z ∧ z ≤ 255) (hl : os.length ≤ 65536) : canN (blankN os.length) os = true := by
  have e : (max 0 (min (os.length : Int) 65536)).toNat = os.length := by omega
  refine (canN_iff (blankN_byte _) ho).2 ⟨by rw [blankN, List.length_replicate, e], fun i => ?_⟩
  by_cases hi : i < os.length
  · have e2 : (blankN os.length).getD i 0 = 255 := by rw [blankN, e]; simp [List.getD, hi]
    have a := byte_getD ho i
    rw [e2]; exact land_255 _ (by omega)
  · have e1 : os.getD i 0 = 0 := by simp [List.getD, List.getElem?_eq_none (show os.length ≤ i by omega)]
    rw [e1]; simp

/-! ### Contracts told from a world on -/
/-- A row of bytes is told, and nothing has changed that was there at V. -/
def ClonedB (V : World) (zs : List Int) (e : Ending) (w' : World) : Prop := ∃ A n cap, e = .returned (.slice A n cap) ∧ Hid (Bs w' A n cap zs) ∧ Hid (Below V.heap.size V w')
theorem cloned_below {V w : World} {zs : List Int} {f : FuncId} {args : Array Value} (hb : Below V.heap.size V w) (h : Calls Try.prog f args w (Cloned w zs)) : Calls Try.prog f args w (ClonedB V zs) :=
  h.mono fun e w' ⟨v, h1, h2, h3⟩ => by
    obtain ⟨A, cap, e1, e2, _⟩ := h2.shape
    subst e1
    exact ⟨A, _, cap, h1, e2, below_keeps hb h3 (fun _ h => h.elim)⟩
theorem below_far {W V w : World} (h : Below W.heap.size W V) (k : Below V.heap.size V w) : Below W.heap.size W w :=
  h.trans ⟨k.os, k.tape, k.output, k.size, fun i hi => k.block i (Nat.lt_of_lt_of_le hi h.size)⟩
theorem below_drew {V w : World} (h : Below V.heap.size V w) : Below V.heap.size V w.drew := ⟨h.os, h.tape, h.output, h.size, h.block⟩


end Go.Proofs.Ytgehkioneelgcaa
/- More on slices of bytes: a part of one, one that lies under what came in.  -/
namespace Go.Proofs.Ytgehkioneelgcaa
open Go.RowKit

theorem take_snoc (l : List Int) (k : Nat) (hk : k < l.length) : l.take k ++ [l[k]] = l.take (k + 1) := by
  rw [List.take_add_one, List.getElem?_eq_getElem hk]; rfl
theorem bs_under {W w : World} {A : Option Addr} {n cap : Nat} {zs : List Int} (h : Bs W A n cap zs) (hb : Below W.heap.size W w) : Bs w A n cap zs :=
  h.later ⟨hb.os, hb.tape, hb.output, hb.size, fun k hk _ => hb.block k hk⟩
/-- A slice's end. -/
theorem Bs.drop {w : World} {b off n cap k : Nat} {zs : List Int} (h : Bs w (some ⟨b, off, none⟩) n cap zs) (hk : k ≤ n) : Bs w (some ⟨b, off + k, none⟩) (n - k) (cap - k) (zs.drop k) := by
  have h1 := h.le
  have h2 := h.max
  refine ⟨by rw [List.length_drop, h.len], by omega, by omega, (fun e => by cases e), fun z hz => h.byte z (List.mem_of_mem_drop hz), fun hn => ?_⟩
  obtain ⟨b', off', e, hb, hc⟩ := h.at_ (by omega)
  cases e
  refine ⟨b, off + k, rfl, hb, fun i hi => ?_⟩
  rw [Nat.add_assoc, hc (k + i) (by omega)]
  simp [List.getD, List.getElem?_drop]

theorem Bs.dropIf {w : World} {b off n cap k : Nat} {zs : List Int} (h : Bs w (some ⟨b, off, none⟩) n cap zs) (hk : k ≤ n) : Bs w (if cap = k then some ⟨b, off, none⟩ else some ⟨b, off + k, none⟩) (n - k) (cap - k) (zs.drop k) := by
  have hd := h.drop hk
  split
  · rename_i e
    have h1 := h.le
    exact ⟨hd.len, hd.le, hd.max, (fun e => by cases e), hd.byte, fun hn => by omega⟩
  · exact hd
theorem Bs.empty (w : World) (a : Addr) (c : Nat) (hc : c ≤ 9223372036854775807) : Bs w (some a) 0 c [] := ⟨rfl, by omega, hc, (fun e => by cases e), (by simp), fun hn => by omega⟩

theorem below_drew1 {B : Nat} {W a : World} (h : Below B W a) : Below B W a.drew := ⟨h.os, h.tape, h.output, h.size, h.block⟩
theorem Bs.take {w : World} {A : Option Addr} {n cap k : Nat} {zs : List Int} (h : Bs w A n cap zs) (hk : k ≤ n) : Bs w A k cap (zs.take k) :=
  ⟨by rw [List.length_take, h.len]; omega, Nat.le_trans hk h.le, h.max, fun e => ⟨by have := (h.nil e).1; omega, (h.nil e).2⟩, fun z hz => h.byte z (List.mem_of_mem_take hz), fun hp => by
    obtain ⟨b, off, e, hb, hc⟩ := h.at_ (by omega)
    exact ⟨b, off, e, hb, fun i hi => by rw [hc i (by omega)]; simp [List.getD, List.getElem?_take, hi]⟩⟩
end Go.Proofs.Ytgehkioneelgcaa
/- The built-in copy into a row that is known whole; a row of bytes cut, laid over. -/
namespace Go.Proofs.Ytgehkioneelgcaa
open Go.RowKit

theorem Blk.laidRow {w : World} {g : Nat} {cs ds : List Value} {T : TypeId} (h : Blk w g cs T) : Blk (w.setRow g ds.toArray) g ds T := by
  unfold Blk at *
  simp only [World.setRow, Array.getElem?_modify, if_true, h]
  rfl
theorem keeps_laidRow {S : Nat → Prop} {a w : World} {g : Nat} {ds : Array Value} (h : Keeps S a w) (hg : g < a.heap.size → S g) : Keeps S a (w.setRow g ds) := by
  refine ⟨h.os, h.tape, h.output, by simpa [World.setRow] using h.size, fun i hi hn => ?_⟩
  rw [← h.block i hi hn]
  have hne : ¬ g = i := fun e => hn (by subst e; exact hg hi)
  simp [World.setRow, Array.getElem?_modify, hne]
theorem splice_nil {α : Type} (L : List α) (off : Nat) : splice L off [] = L := by simp [splice]
theorem splice_map {α β : Type} (f : α → β) (L : List α) (off : Nat) (X : List α) : (splice L off X).map f = splice (L.map f) off (X.map f) := by simp [splice, List.map_take, List.map_drop]
theorem splice_take {α : Type} (L : List α) (off n : Nat) (X : List α) (h : off + X.length ≤ n) (hn : n ≤ L.length) : (splice L off X).take n = splice (L.take n) off X := by
  simp only [splice]
  rw [List.take_append, List.take_append, List.take_take, List.length_take, List.drop_take, Nat.min_eq_right (by omega), Nat.min_eq_left (by omega), List.take_take, Nat.min_eq_left (by omega), List.take_of_length_le (l := X) (by omega), Nat.sub_sub]
theorem splice_getD (L : List Int) (off : Nat) (X : List Int) (h : off + X.length ≤ L.length) (i : Nat) : (splice L off X).getD i 0 = if off ≤ i ∧ i < off + X.length then X.getD (i - off) 0 else L.getD i 0 := by
  simp only [splice, List.getD]
  by_cases h1 : i < off
  · rw [if_neg (by omega), List.getElem?_append_left (by rw [List.length_take]; omega), List.getElem?_take, if_pos h1]
  · rw [List.getElem?_append_right (by rw [List.length_take]; omega), List.length_take, Nat.min_eq_left (by omega)]
    by_cases h2 : i < off + X.length
    · rw [if_pos ⟨by omega, h2⟩, List.getElem?_append_left (by omega)]
    · rw [if_neg (by omega), List.getElem?_append_right (by omega), List.getElem?_drop]
      congr 2; omega
theorem splice_byte {L X : List Int} {off : Nat} (h1 : ∀ z ∈ L, 0 ≤ z ∧ z ≤ 255) (h2 : ∀ z ∈ X, 0 ≤ z ∧ z ≤ 255) : ∀ z ∈ splice L off X, 0 ≤ z ∧ z ≤ 255 := by
  intro z hz
  simp only [splice, List.mem_append] at hz
  rcases hz with hz | hz | hz
  · exact h1 z (List.mem_of_mem_take hz)
  · exact h2 z hz
  · exact h1 z (List.mem_of_mem_drop hz)
theorem splice_len (L : List Int) (off : Nat) (X : List Int) (h : off + X.length ≤ L.length) : (splice L off X).length = L.length := length_splice L off X h

section
variable {ops : Array Oper} {rest : List Oper} {o : Oper} {a : Act} {Q : Exit → Act → World → Prop} {d s : Operand} {w : World}
theorem wpList_copy_blk {g off dLen dCap m c : Nat} {D A : Option Addr} {ns : List Int} {cs : List Value} {T : TypeId}
    (hgd : o.guard = none) (ho : o.op = .call { callee := .builtin .copy, args := #[d, s], argTypes := #[24, 24] }) (hd : a.eval d = .slice D dLen dCap) (hs : a.eval s = .slice A m c)
    (hD : 0 < min m dLen → D = some ⟨g, off, none⟩) (hb : Blk w g cs T) (hbs : Bs w A m c ns) (hfit : off + min m dLen ≤ cs.length)
    (h : ∀ w', Blk w' g (splice cs off ((ns.take dLen).map (.int .u8))) T → Keeps (fun k => k = g) w w' → wpList Try.prog ops Q rest (a.put o.dst (goInt ((min m dLen : Nat) : Int))) w') : wpList Try.prog ops Q (o :: rest) a w := by
  have hln : ((ns.take dLen).map (Value.int .u8)).length = min m dLen := by rw [List.length_map, List.length_take, hbs.len]; exact Nat.min_comm _ _
  have hi : (Try.prog.info? 5).map (·.size) = some 1 := by
    obtain ⟨i, hi, _, h1, _⟩ := info_parts Try.info5
    rw [hi]; simp [h1]
  by_cases h0 : min m dLen = 0
  · have e : (ns.take dLen).map (Value.int .u8) = [] := List.eq_nil_of_length_eq_zero (by rw [hln]; exact h0)
    have := h w (by rw [e, splice_nil]; exact hb) (Keeps.refl _ _)
    rw [h0] at this
    exact wpList_copy_nothing hgd d s _ _ ho 5 Try.underlying24 hi D A dLen dCap m c hd hs (by show min m dLen = 0; exact h0) this
  · obtain ⟨b, off2, e2, _, hc⟩ := hbs.at_ (by omega)
    have hD' := hD (by omega)
    subst hD'
    subst e2
    have := h (w.setRow g (cs.take off ++ ((ns.take dLen).map (Value.int .u8) ++ cs.drop (off + ((ns.take dLen).map (Value.int .u8)).length))).toArray) hb.laidRow (keeps_laidRow (Keeps.refl _ _) (fun _ => rfl))
    rw [← hln] at this
    refine wpList_copy_own hgd d s _ _ ho 5 Try.underlying24 hi g off dLen dCap ⟨b, off2, none⟩ m c hd hs cs.toArray T hb ((ns.take dLen).map (Value.int .u8)) hln ?_ (by rw [hln]; simpa using hfit) ?_ (by simpa using this)
    · intro j v hv
      have hj : j < (ns.take dLen).length := by
        rcases Nat.lt_or_ge j (ns.take dLen).length with h | h
        · exact h
        · rw [List.getElem?_eq_none (by simpa using h)] at hv; cases hv
      have hj2 : j < min m dLen := by rw [List.length_map] at hln; omega
      have e3 : (⟨b, off2, none⟩ : Addr).add j = ⟨b, off2 + j, none⟩ := by unfold Addr.add; split <;> simp_all
      rw [e3, hc j (by omega), ← hv, map_getD 0 hj]
      simp [List.getD, List.getElem?_take, show j < dLen by omega]
    · intro v hv
      obtain ⟨z, _, rfl⟩ := List.mem_map.1 hv
      rfl

theorem Own.row {B g n cap : Nat} {zs : List Int} (h : Own w B (.slice (some ⟨g, 0, none⟩) n cap) zs) : ∃ cur : List Value, Blk w g cur 5 ∧ cur.length = cap ∧ cur.take n = zs.map (.int .u8) ∧ n = zs.length ∧ n ≤ cap ∧ cap ≤ 9223372036854775807 ∧ B ≤ g := by
  rcases h.1.2 with ⟨e, h0⟩ | ⟨g', cap', cur, e, hb, hg, hn, hm, hs, ht⟩
  · cases e
  · cases e
    refine ⟨cur.toList, ?_, by simpa using hs, by simpa using ht, rfl, hn, by unfold maxLen at hm; omega, hb⟩
    unfold Blk; simpa using hg
theorem Own.ofRow {B g n cap : Nat} {zs : List Int} {cur : List Value} (hb : Blk w g cur 5) (hl : cur.length = cap) (ht : cur.take n = zs.map (.int .u8)) (hn : n = zs.length) (hc : n ≤ cap) (hm : cap ≤ 9223372036854775807) (hB : B ≤ g) (hz : ∀ z ∈ zs, 0 ≤ z ∧ z ≤ 255) :
    Own w B (.slice (some ⟨g, 0, none⟩) n cap) zs := by
  subst hn
  refine ⟨⟨by simp, .inr ⟨g, cap, cur.toArray, rfl, hB, hb, hc, by unfold maxLen; omega, by simpa using hl, by simpa using ht⟩⟩, hz⟩

theorem wpList_copy_bs {B g off n cap dLen dCap m c : Nat} {D A : Option Addr} {zs ns : List Int}
    (hgd : o.guard = none) (ho : o.op = .call { callee := .builtin .copy, args := #[d, s], argTypes := #[24, 24] }) (hd : a.eval d = .slice D dLen dCap) (hs : a.eval s = .slice A m c)
    (hD : 0 < min m dLen → D = some ⟨g, off, none⟩) (hown : Own w B (.slice (some ⟨g, 0, none⟩) n cap) zs) (hbs : Bs w A m c ns) (hfit : off + min m dLen ≤ n)
    (h : ∀ w', Own w' B (.slice (some ⟨g, 0, none⟩) n cap) (splice zs off (ns.take dLen)) → Keeps (fun k => k = g) w w' → wpList Try.prog ops Q rest (a.put o.dst (goInt ((min m dLen : Nat) : Int))) w') : wpList Try.prog ops Q (o :: rest) a w := by
  obtain ⟨cur, h1, h2, h3, h4, h5, h6, h7⟩ := hown.row
  have hl : (ns.take dLen).length = min m dLen := by rw [List.length_take, hbs.len]; exact Nat.min_comm _ _
  refine wpList_copy_blk hgd ho hd hs hD h1 hbs (by omega) fun w' hb hk => h w' ?_ hk
  have hlm : ((ns.take dLen).map (Value.int .u8)).length = min m dLen := by rw [List.length_map]; exact hl
  refine Own.ofRow hb (by rw [length_splice _ _ _ (by rw [hlm]; omega)]; exact h2) ?_ (by rw [splice_len _ _ _ (by rw [hl]; omega)]; exact h4) h5 h6 h7 (splice_byte hown.2 (fun z hz => hbs.byte z (List.mem_of_mem_take hz)))
  rw [splice_take _ _ _ _ (by rw [hlm]; omega) (by omega), h3, splice_map]
end
theorem ownBs {w : World} {X : Nat} {A : Option Addr} {n cap : Nat} {l : List Int} (h : Own w X (.slice A n cap) l) : Bs w A n cap l := by
  obtain ⟨A', cap', e, hb, -⟩ := h.shape
  cases e
  exact hb
end Go.Proofs.Ytgehkioneelgcaa
/- The plain law of a flash: what its calls do to bytes, erasures, steps. -/
namespace Go.Proofs.Ytgehkioneelgcaa
open Go.RowKit

/-- A flash: its bytes, how often each sector was erased, the steps; how many steps go ahead of the broken one (-1: none is broken); what is left of the broken step; is there no power? -/
structure FS where
  b : List Int
  er : List Int
  steps : Int
  left : Int
  pick : List Int
  dark : Bool
def FS.stepped (s : FS) : FS :=
  if s.left < 0 then { s with steps := s.steps + 1 } else if s.left = 0 then { s with steps := s.steps + 1, left := -1, pick := [], dark := true } else { s with steps := s.steps + 1, left := s.left - 1 }
def withinB (at_ n size : Int) : Bool := decide (0 ≤ at_ ∧ 0 ≤ n ∧ at_ ≤ size ∧ n ≤ size - at_)
def FS.readF (s : FS) (at_ n : Int) : List Int × Int :=
  if s.dark = true then ([], 5) else if withinB at_ n s.b.length = true then ((s.b.drop at_.toNat).take n.toNat, 0) else ([], 2)
def FS.peekF (s : FS) (at_ n : Int) : List Int := if withinB at_ n s.b.length = true then (s.b.drop at_.toNat).take n.toNat else []
/-- Words programmed one behind the other, as far as there is power. -/
def progW : Nat → FS → Nat → List Int → FS × Int
  | 0, s, _, _ => (s, 0)
  | k + 1, s, at_, ws =>
    if s.left = 0 then ({ s.stepped with b := splice s.b at_ (tornN ((s.b.drop at_).take 8) (ws.take 8) s.pick) }, 5)
    else progW k { s.stepped with b := splice s.b at_ (ws.take 8) } (at_ + 8) (ws.drop 8)
def FS.progF (s : FS) (at_ : Int) (zs : List Int) : FS × Int :=
  if s.dark = true then (s, 5) else if withinB at_ zs.length s.b.length = false then (s, 2) else if at_ % 8 ≠ 0 ∨ zs.length % 8 ≠ 0 then (s, 3)
  else if canN ((s.b.drop at_.toNat).take zs.length) zs = false then (s, 4) else progW (zs.length / 8) s at_.toNat zs
def FS.erased (s : FS) (k : Nat) : FS := { s with er := s.er.set k (s.er.getD k 0 + 1) }
def FS.eraseF (s : FS) (k : Int) : FS × Int :=
  if s.dark = true then (s, 5) else if k < 0 ∨ s.er.length ≤ k then (s, 2)
  else if s.left = 0 then ({ (s.erased k.toNat).stepped with b := splice s.b (1024 * k.toNat) (halfN ((s.b.drop (1024 * k.toNat)).take 1024) s.pick) }, 5)
  else ({ (s.erased k.toNat).stepped with b := splice s.b (1024 * k.toNat) (List.replicate 1024 255) }, 0)
def FS.armF (s : FS) (after : Int) (pick : List Int) : FS := if after < 0 then { s with left := -1, pick := [] } else { s with left := after, pick := pick }
def FS.bootF (s : FS) : FS := { s with left := -1, pick := [], dark := false }
def FS.spoilF (s : FS) (at_ : Int) (zs : List Int) : FS × Int :=
  if withinB at_ zs.length s.b.length = true then ({ s with b := splice s.b at_.toNat zs }, 0) else (s, 2)
def FS.erasesF (s : FS) (k : Int) : Int := if k < 0 ∨ s.er.length ≤ k then 0 else s.er.getD k.toNat 0
def newF (n : Int) : FS := { b := List.replicate (1024 * (max 1 (min n 256)).toNat) 255, er := List.replicate (max 1 (min n 256)).toNat 0, steps := 0, left := -1, pick := [], dark := false }

theorem FS.stepped_b (s : FS) : s.stepped.b = s.b := by unfold FS.stepped; split <;> (try split) <;> rfl
theorem FS.stepped_er (s : FS) : s.stepped.er = s.er := by unfold FS.stepped; split <;> (try split) <;> rfl
theorem FS.stepped_steps (s : FS) : s.stepped.steps = s.steps + 1 := by unfold FS.stepped; split <;> (try split) <;> rfl

/-- Can words be programmed: each by itself. -/
theorem canN_take {os ns : List Int} (h : canN os ns = true) (k : Nat) : canN (os.take k) (ns.take k) = true := by
  simp only [canN, decide_eq_true_eq] at h ⊢
  obtain ⟨h1, h2⟩ := h
  refine ⟨by rw [List.length_take, List.length_take, h1], fun i hi => ?_⟩
  rw [List.length_take] at hi
  have := h2 i (by omega)
  simpa [List.getD, List.getElem?_take, show i < k by omega] using this
theorem canN_drop {os ns : List Int} (h : canN os ns = true) (k : Nat) : canN (os.drop k) (ns.drop k) = true := by
  simp only [canN, decide_eq_true_eq] at h ⊢
  obtain ⟨h1, h2⟩ := h
  refine ⟨by rw [List.length_drop, List.length_drop, h1], fun i hi => ?_⟩
  rw [List.length_drop] at hi
  have := h2 (k + i) (by omega)
  simpa [List.getD, List.getElem?_drop] using this
theorem splice_drop (L : List Int) (off k : Nat) (X : List Int) (h : off + X.length ≤ k) (hl : off + X.length ≤ L.length) : (splice L off X).drop k = L.drop k := by
  apply List.ext_getElem?
  intro i
  rw [List.getElem?_drop, List.getElem?_drop]
  simp only [splice]
  rw [List.getElem?_append_right (by rw [List.length_take]; omega), List.length_take, Nat.min_eq_left (by omega), List.getElem?_append_right (by omega), List.getElem?_drop]
  congr 1; omega
end Go.Proofs.Ytgehkioneelgcaa
/- And, or, xor of int's that are not negative. -/
namespace Go.Proofs.Ytgehkioneelgcaa
theorem ofInt_i64 (a : Nat) (ha : a < 9223372036854775808) : (BitVec.ofInt 64 (a : Int)).toNat = a := by
  rw [BitVec.ofInt_natCast, BitVec.toNat_ofNat]; exact Nat.mod_eq_of_lt (by omega)
theorem wrap_nat (x : Nat) (h : x < 9223372036854775808) : IntKind.i64.wrap (x : Int) = x := by
  simp [IntKind.wrap, IntKind.bits, IntKind.signed]; omega
theorem i64_and_nat (a b : Nat) (ha : a < 9223372036854775808) (hb : b < 9223372036854775808) : bits .and .i64 (a : Int) (b : Int) = ((a &&& b : Nat) : Int) := by
  have hx : a &&& b < 2 ^ 63 := Nat.and_lt_two_pow _ (by omega)
  show IntKind.i64.wrap ((BitVec.ofInt 64 (a : Int) &&& BitVec.ofInt 64 (b : Int)).toNat : Int) = _
  rw [BitVec.toNat_and, ofInt_i64 a ha, ofInt_i64 b hb]
  exact wrap_nat _ (by omega)
theorem i64_or_nat (a b : Nat) (ha : a < 9223372036854775808) (hb : b < 9223372036854775808) : bits .or .i64 (a : Int) (b : Int) = ((a ||| b : Nat) : Int) := by
  have hx : a ||| b < 2 ^ 63 := Nat.or_lt_two_pow (by omega) (by omega)
  show IntKind.i64.wrap ((BitVec.ofInt 64 (a : Int) ||| BitVec.ofInt 64 (b : Int)).toNat : Int) = _
  rw [BitVec.toNat_or, ofInt_i64 a ha, ofInt_i64 b hb]
  exact wrap_nat _ (by omega)
theorem i64_and_one (a : Nat) (ha : a < 9223372036854775808) : bits .and .i64 (a : Int) 1 = ((a % 2 : Nat) : Int) := by
  have := i64_and_nat a 1 ha (by decide)
  rw [nat_mask1] at this
  exact this
end Go.Proofs.Ytgehkioneelgcaa
/- The walks of the reference's functions on cells: bit, picked, Can, Program, Torn, Between, Half, Risen, IsBlank. -/
namespace Go.Proofs.Ytgehkioneelgcaa
open Go.RowKit

theorem test_eq (x k : Nat) : x.testBit k = decide (x / 2 ^ k % 2 = 1) := Nat.testBit_eq_decide_div_mod_eq
theorem byte_high {a k : Nat} (ha : a < 256) (hk : 8 ≤ k) : a.testBit k = false :=
  Nat.testBit_lt_two_pow (Nat.lt_of_lt_of_le ha (by have := Nat.pow_le_pow_right (show 0 < 2 by decide) hk; simpa using this))
theorem byte_bits {a b : Nat} (ha : a < 256) : a &&& b = a ↔ ∀ k, k < 8 → a / 2 ^ k % 2 ≤ b / 2 ^ k % 2 := by
  constructor
  · intro h k _
    have h2 : (a &&& b).testBit k = a.testBit k := by rw [h]
    rw [Nat.testBit_and, test_eq, test_eq] at h2
    by_cases h3 : a / 2 ^ k % 2 = 1
    · rw [h3] at h2; simp at h2; omega
    · omega
  · intro h
    apply Nat.eq_of_testBit_eq
    intro k
    rw [Nat.testBit_and]
    by_cases hk : k < 8
    · have := h k hk
      rw [test_eq, test_eq]
      by_cases h3 : a / 2 ^ k % 2 = 1
      · have h4 : b / 2 ^ k % 2 = 1 := by omega
        rw [h3, h4]; rfl
      · simp [h3]
    · rw [byte_high ha (by omega)]; rfl
/-- The bits of p that o lacks, laid onto o, the lowest k of them. -/
def onto (o p k : Nat) : Nat := o ||| (p &&& (2 ^ k - 1))
theorem onto_zero (o p : Nat) : onto o p 0 = o := by simp [onto]
theorem onto_all (o p : Nat) (hp : p < 256) : onto o p 8 = o ||| p := by
  unfold onto
  rw [Nat.and_two_pow_sub_one_eq_mod, Nat.mod_eq_of_lt hp]
theorem onto_lt (o p k : Nat) (ho : o < 256) (hp : p < 256) : onto o p k < 256 := by
  unfold onto
  have : p &&& (2 ^ k - 1) ≤ p := Nat.and_le_left
  exact Nat.or_lt_two_pow (n := 8) ho (by omega)
theorem onto_test (o p k i : Nat) : (onto o p k).testBit i = (o.testBit i || (p.testBit i && decide (i < k))) := by
  simp [onto, Nat.testBit_or, Nat.testBit_and, Nat.testBit_two_pow_sub_one, Bool.and_comm]
theorem onto_stay (o p k : Nat) (h : ¬ (o / 2 ^ k % 2 = 0 ∧ p / 2 ^ k % 2 = 1)) : onto o p (k + 1) = onto o p k := by
  apply Nat.eq_of_testBit_eq
  intro i
  rw [onto_test, onto_test]
  by_cases e : i = k
  · subst e
    rw [test_eq, test_eq]
    by_cases h1 : o / 2 ^ i % 2 = 1
    · simp [h1]
    · have : ¬ p / 2 ^ i % 2 = 1 := fun h2 => h ⟨by omega, h2⟩
      simp [this]
  · have : decide (i < k + 1) = decide (i < k) := by simp; omega
    rw [this]
theorem add_bit : ∀ (x : Fin 256) (k : Fin 8), x.val / 2 ^ k.val % 2 = 0 → x.val + 2 ^ k.val = x.val ||| 2 ^ k.val ∧ x.val + 2 ^ k.val < 256 := by decide +kernel
theorem onto_add (o p k : Nat) (ho : o < 256) (hp : p < 256) (hk : k < 8) (h1 : o / 2 ^ k % 2 = 0) (h2 : p / 2 ^ k % 2 = 1) : onto o p (k + 1) = onto o p k + 2 ^ k ∧ onto o p k + 2 ^ k < 256 := by
  have hl := onto_lt o p k ho hp
  have hb : (onto o p k).testBit k = false := by rw [onto_test, test_eq, h1]; simp
  have hz : onto o p k / 2 ^ k % 2 = 0 := by
    rw [test_eq] at hb
    have := of_decide_eq_false hb
    omega
  obtain ⟨e1, e2⟩ := add_bit ⟨_, hl⟩ ⟨k, hk⟩ hz
  refine ⟨?_, e2⟩
  simp only at e1
  rw [e1]
  apply Nat.eq_of_testBit_eq
  intro i
  rw [onto_test, Nat.testBit_or, onto_test, Nat.testBit_two_pow]
  by_cases e : i = k
  · subst e
    rw [test_eq p, h2]; simp
  · have : decide (i < k + 1) = decide (i < k) := by simp; omega
    have h3 : decide (k = i) = false := by simp; omega
    rw [this, h3, Bool.or_false]

/-- A value, and the world as it was. -/
def Same (v : Value) (w : World) (e : Ending) (w' : World) : Prop := e = .returned v ∧ w = w'
theorem Same.to {v v' : Value} {w w' : World} {e : Ending} (h : Same v w e w') (hv : v = v') : Same v' w e w' := by rw [← hv]; exact h

theorem and_bit (a b k : Nat) : (a &&& b) / 2 ^ k % 2 = 1 ↔ a / 2 ^ k % 2 = 1 ∧ b / 2 ^ k % 2 = 1 := by
  have := Nat.testBit_and a b k
  rw [test_eq, test_eq, test_eq] at this
  constructor
  · intro h; rw [h] at this; simpa using this.symm
  · rintro ⟨h1, h2⟩; rw [h1, h2] at this; simpa using this
theorem set_getD_self (l : List Int) (k : Nat) : l.set k (l.getD k 0) = l := by
  apply List.ext_getElem?
  intro i
  by_cases hi : i < l.length
  · by_cases e : i = k
    · subst e; simp [List.getD, hi]
    · have : k ≠ i := fun h => e h.symm
      simp [List.getElem?_set, this]
  · rw [List.getElem?_eq_none (by simpa using Nat.le_of_not_lt hi), List.getElem?_eq_none (Nat.le_of_not_lt hi)]

end Go.Proofs.Ytgehkioneelgcaa
/- The walks of the reference's functions on cells: Program, Torn, Between, Half, Risen. -/
namespace Go.Proofs.Ytgehkioneelgcaa
open Go.RowKit

theorem getD_set_self (l : List Int) (k : Nat) (v : Int) (h : k < l.length) : (l.set k v).getD k 0 = v := by simp [List.getD, h]
theorem Own.cellAt {w : World} {B : Nat} {g n cap : Nat} {zs : List Int} (h : Own w B (.slice (some ⟨g, 0, none⟩) n cap) zs) {k : Nat} (hk : k < n) :
    w.cell? ⟨g, k, none⟩ = some (.int .u8 (zs.getD k 0)) ∧ w.frozen? ⟨g, k, none⟩ = false := by
  obtain ⟨g', e, _, _, _, _, _, h1, h2⟩ := h.at_ hk
  cases e
  exact ⟨h1, h2⟩



end Go.Proofs.Ytgehkioneelgcaa
/- A flash in memory; the walks of the calls that only tell: within, Size, Peek, Read, Off, Erases, Steps. -/
namespace Go.Proofs.Ytgehkioneelgcaa
open Go.RowKit

/-- Where a flash lies: its own block, its bytes' (N of capb), its erasures' (n); what stands in its field 'after'; its pick. -/
structure FL where
  bf : Nat
  gb : Nat
  ge : Nat
  N : Nat
  capb : Nat
  n : Nat
  af : Int
  pA : Option Addr
  pc : Nat
  pk : List Int
def FL.S (L : FL) (k : Nat) : Prop := k = L.bf ∨ k = L.gb ∨ k = L.ge
def FL.pv (L : FL) : Value := .slice L.pA L.pk.length L.pc
def FL.O (L : FL) (k : Nat) : Prop := L.S k ∨ L.pv.ownBlock = some k
def FL.p (L : FL) : Value := .pointer (some ⟨L.bf, 0, none⟩)
structure FAt (w : World) (B : Nat) (L : FL) (s : FS) : Prop where
  f : Blk w L.bf [.slice (some ⟨L.gb, 0, none⟩) L.N L.capb, .slice (some ⟨L.ge, 0, none⟩) L.n L.n, .int .i64 s.steps, .bool s.dark, .bool (decide (0 ≤ s.left)), .int .i64 L.af, .slice L.pA L.pk.length L.pc] 46
  b : Own w B (.slice (some ⟨L.gb, 0, none⟩) L.N L.capb) s.b
  e : Blk w L.ge (s.er.map (.int .i64)) 3
  p : Own w B L.pv L.pk
  el : s.er.length = L.n
  armed : 0 ≤ s.left → L.af = s.left ∧ L.pk = s.pick
  lm : -1 ≤ s.left
  lx : s.left ≤ 9223372036854775807
  nN : L.N = 1024 * L.n
  n0 : 1 ≤ L.n
  n9 : L.n ≤ 256
  bB : B ≤ L.bf
  eB : B ≤ L.ge
  d1 : L.bf ≠ L.gb
  d2 : L.bf ≠ L.ge
  d3 : L.gb ≠ L.ge
  pn : ∀ g, L.pv.ownBlock = some g → ¬ L.S g
theorem FAt.keeps {w w' : World} {B : Nat} {L : FL} {s : FS} {S : Nat → Prop} (h : FAt w B L s) (hk : Keeps S w w') (hS : ∀ k, L.O k → ¬ S k) : FAt w' B L s :=
  ⟨hk.blk h.f (hS _ (.inl (.inl rfl))), h.b.keeps hk (fun b e => by cases e; exact hS _ (.inl (.inr (.inl rfl)))), hk.blk h.e (hS _ (.inl (.inr (.inr rfl)))), h.p.keeps hk (fun b e => hS _ (.inr e)),
    h.el, h.armed, h.lm, h.lx, h.nN, h.n0, h.n9, h.bB, h.eB, h.d1, h.d2, h.d3, h.pn⟩
theorem FAt.later {w w' : World} {B : Nat} {L : FL} {s : FS} (h : FAt w B L s) (hk : Keeps None w w') : FAt w' B L s := h.keeps hk (fun _ _ h => h)
theorem FAt.drew {w : World} {B : Nat} {L : FL} {s : FS} (h : FAt w B L s) : FAt w.drew B L s := h.later (Keeps.refl None w).drew
theorem FAt.alloc {w : World} {B : Nat} {L : FL} {s : FS} (h : FAt w B L s) (o : Obj) : FAt (w.alloc o) B L s := h.later ((Keeps.refl None w).alloc o)
theorem FAt.bs {w : World} {B : Nat} {L : FL} {s : FS} (h : FAt w B L s) : Bs w (some ⟨L.gb, 0, none⟩) L.N L.capb s.b := ownBs h.b
theorem FAt.bl {w : World} {B : Nat} {L : FL} {s : FS} (h : FAt w B L s) : s.b.length = L.N := h.bs.len
theorem FAt.lt {w : World} {B : Nat} {L : FL} {s : FS} (h : FAt w B L s) : ∀ k, L.O k → k < w.heap.size := by
  intro k hk
  rcases hk with (rfl | rfl | rfl) | hp
  · exact h.f.lt
  · obtain ⟨cur, hb, _⟩ := h.b.row; exact hb.lt
  · exact h.e.lt
  · obtain ⟨A, cap, e, _, h3⟩ := h.p.shape
    rw [e] at hp
    cases A with
    | none => cases hp
    | some ad =>
      have hp' : ad.block = k := by simpa [Value.ownBlock] using hp
      rcases h.p.1.2 with ⟨e0, _⟩ | ⟨g, cap', cur, e1, hb, hg, _⟩
      · rw [e] at e0; cases e0
      · rw [e] at e1; cases e1
        obtain rfl : g = k := hp'
        exact (Array.getElem?_eq_some_iff.1 hg).1
theorem FAt.low {w : World} {B : Nat} {L : FL} {s : FS} (h : FAt w B L s) : ∀ k, L.O k → B ≤ k := by
  intro k hk
  rcases hk with (rfl | rfl | rfl) | hp
  · exact h.bB
  · obtain ⟨cur, hb, _, _, _, _, _, h7⟩ := h.b.row; exact h7
  · exact h.eB
  · exact Nat.le_of_not_lt fun hlt => h.p.notBelow hlt hp


set_option maxRecDepth 100000 in
theorem fwithin_any (B : Nat) (L : FL) (s : FS) (a m : Int) (w : World) (h : FAt w B L s) : Calls Try.prog 59 #[L.p, .int .i64 a, .int .i64 m] w (Same (.bool (withinB a m L.N)) w) := by
  obtain ⟨bf, gb, ge, N, capb, n, af, pA, pc, pk⟩ := L
  have c0 := h.f.cellD 0 _ rfl
  have c1 := h.f.cellD 1 _ rfl
  have c2 := h.f.cellD 2 _ rfl
  have c3 := h.f.cellD 3 _ rfl
  have c4 := h.f.cellD 4 _ rfl
  have c5 := h.f.cellD 5 _ rfl
  have c6 := h.f.cellD 6 _ rfl
  have hcap := h.bs.le
  have hcmx := h.bs.max
  have hN := h.nN
  have hn0 := h.n0
  have hn9 := h.n9
  have H := Lib.hid h
  simp only [] at c0 c1 c2 c3 c4 c5 c6 hcap hcmx hN hn0 hn9
  have hNb : N ≤ 262144 := by omega
  have hN1 : 1024 ≤ N := by omega
  have HN := Lib.hid hN
  clear h hN
  simp only [FL.p, FL.pv]
  have WI : Hid (withinB a m N = (decide (0 ≤ a) && decide (0 ≤ m) && decide (a ≤ N) && decide (m ≤ N - a))) := by
    show withinB a m N = _
    unfold withinB
    by_cases q1 : 0 ≤ a <;> by_cases q2 : 0 ≤ m <;> by_cases q3 : a ≤ N <;> by_cases q4 : m ≤ N - a <;> simp [q1, q2, q3, q4]
  by_cases q1 : 0 ≤ a
  · have e1 : decide (0 ≤ a) = true := decide_eq_true q1
    by_cases q2 : 0 ≤ m
    · have e2 : decide (0 ≤ m) = true := decide_eq_true q2
      by_cases q3 : a ≤ N
      · have e3 : decide (a ≤ N) = true := decide_eq_true q3
        rw [e1, e2, e3] at WI
        go_enter Try.func59, Try.ntmps59
        go_wp2
        go_ret
        exact ⟨ret_bool (by rw [WI.out]; simp), rfl⟩
      · have e3 : decide (a ≤ N) = false := decide_eq_false q3
        rw [e1, e2, e3] at WI
        go_enter Try.func59, Try.ntmps59
        go_wp2
        go_ret
        exact ⟨ret_bool (by rw [WI.out]; simp), rfl⟩
    · have e2 : decide (0 ≤ m) = false := decide_eq_false q2
      rw [e1, e2] at WI
      go_enter Try.func59, Try.ntmps59
      go_wp2
      go_ret
      exact ⟨ret_bool (by rw [WI.out]; simp), rfl⟩
  · have e1 : decide (0 ≤ a) = false := decide_eq_false q1
    rw [e1] at WI
    go_enter Try.func59, Try.ntmps59
    go_wp2
    go_ret
    exact ⟨ret_bool (by rw [WI.out]; simp), rfl⟩

set_option maxRecDepth 100000 in
theorem fsize_any (B : Nat) (L : FL) (s : FS) (w : World) (h : FAt w B L s) : Calls Try.prog 36 #[L.p] w (Same (.int .i64 L.N) w) := by
  obtain ⟨bf, gb, ge, N, capb, n, af, pA, pc, pk⟩ := L
  have c0 := h.f.cellD 0 _ rfl
  have c1 := h.f.cellD 1 _ rfl
  have c2 := h.f.cellD 2 _ rfl
  have c3 := h.f.cellD 3 _ rfl
  have c4 := h.f.cellD 4 _ rfl
  have c5 := h.f.cellD 5 _ rfl
  have c6 := h.f.cellD 6 _ rfl
  have hcap := h.bs.le
  have hcmx := h.bs.max
  have hN := h.nN
  have hn0 := h.n0
  have hn9 := h.n9
  have H := Lib.hid h
  simp only [] at c0 c1 c2 c3 c4 c5 c6 hcap hcmx hN hn0 hn9
  have hNb : N ≤ 262144 := by omega
  have hN1 : 1024 ≤ N := by omega
  have HN := Lib.hid hN
  clear h hN
  simp only [FL.p, FL.pv]
  go_enter Try.func36, Try.ntmps36
  go_wp2
  go_ret
  exact ⟨rfl, rfl⟩
theorem foff_any (B : Nat) (L : FL) (s : FS) (w : World) (h : FAt w B L s) : Calls Try.prog 58 #[L.p] w (Same (.bool s.dark) w) := by
  obtain ⟨bf, gb, ge, N, capb, n, af, pA, pc, pk⟩ := L
  have c0 := h.f.cellD 0 _ rfl
  have c1 := h.f.cellD 1 _ rfl
  have c2 := h.f.cellD 2 _ rfl
  have c3 := h.f.cellD 3 _ rfl
  have c4 := h.f.cellD 4 _ rfl
  have c5 := h.f.cellD 5 _ rfl
  have c6 := h.f.cellD 6 _ rfl
  have hcap := h.bs.le
  have hcmx := h.bs.max
  have hN := h.nN
  have hn0 := h.n0
  have hn9 := h.n9
  have H := Lib.hid h
  simp only [] at c0 c1 c2 c3 c4 c5 c6 hcap hcmx hN hn0 hn9
  have hNb : N ≤ 262144 := by omega
  have hN1 : 1024 ≤ N := by omega
  have HN := Lib.hid hN
  clear h hN
  simp only [FL.p, FL.pv]
  go_enter Try.func58, Try.ntmps58
  go_wp2
  go_ret
  exact ⟨rfl, rfl⟩

theorem within_nat {a m : Int} {N : Nat} (h : withinB a m N = true) : ∃ i j : Nat, a = i ∧ m = j ∧ i + j ≤ N := by
  have := of_decide_eq_true h
  exact ⟨a.toNat, m.toNat, by omega, by omega, by omega⟩

set_option maxRecDepth 100000 in
theorem fpeek_any (B : Nat) (L : FL) (s : FS) (a m : Int) (w : World) (h : FAt w B L s) : Calls Try.prog 64 #[L.p, .int .i64 a, .int .i64 m] w (Cloned w (s.peekF a m)) := by
  have WI := Lib.hid (fwithin_any B L s a m w h)
  have hbl := h.bl
  have hpk : s.peekF a m = if withinB a m L.N = true then (s.b.drop a.toNat).take m.toNat else [] := by unfold FS.peekF; rw [hbl]
  cases hw : withinB a m L.N with
  | false =>
    rw [hw] at WI hpk
    rw [if_neg (by decide)] at hpk
    rw [hpk]
    clear hpk hw hbl
    obtain ⟨bf, gb, ge, N, capb, n, af, pA, pc, pk⟩ := L
    have c0 := h.f.cellD 0 _ rfl
    have c1 := h.f.cellD 1 _ rfl
    have c2 := h.f.cellD 2 _ rfl
    have c3 := h.f.cellD 3 _ rfl
    have c4 := h.f.cellD 4 _ rfl
    have c5 := h.f.cellD 5 _ rfl
    have c6 := h.f.cellD 6 _ rfl
    have hcap := h.bs.le
    have hcmx := h.bs.max
    have hN := h.nN
    have hn0 := h.n0
    have hn9 := h.n9
    have H := Lib.hid h
    simp only [] at c0 c1 c2 c3 c4 c5 c6 hcap hcmx hN hn0 hn9
    have hNb : N ≤ 262144 := by omega
    have hN1 : 1024 ≤ N := by omega
    have HN := Lib.hid hN
    clear h hN
    simp only [FL.p, FL.pv]
    simp only [FL.p] at WI
    go_enter Try.func64, Try.ntmps64
    go_wp2_with fail
    refine WI.out.mono ?_
    rintro e w' ⟨rfl, rfl⟩
    go_wp2
    go_ret
    exact ⟨_, rfl, Own.nil _ _, Keeps.refl _ _⟩
  | true =>
    rw [hw] at WI hpk
    rw [if_pos rfl] at hpk
    obtain ⟨i, j, rfl, rfl, hij⟩ := within_nat hw
    rw [hpk]
    simp only [Int.toNat_natCast]
    clear hpk hw hbl
    obtain ⟨bf, gb, ge, N, capb, n, af, pA, pc, pk⟩ := L
    have c0 := h.f.cellD 0 _ rfl
    have c1 := h.f.cellD 1 _ rfl
    have c2 := h.f.cellD 2 _ rfl
    have c3 := h.f.cellD 3 _ rfl
    have c4 := h.f.cellD 4 _ rfl
    have c5 := h.f.cellD 5 _ rfl
    have c6 := h.f.cellD 6 _ rfl
    have hcap := h.bs.le
    have hcmx := h.bs.max
    have hN := h.nN
    have hn0 := h.n0
    have hn9 := h.n9
    have H := Lib.hid h
    simp only [] at c0 c1 c2 c3 c4 c5 c6 hcap hcmx hN hn0 hn9
    have hNb : N ≤ 262144 := by omega
    have hN1 : 1024 ≤ N := by omega
    have HN := Lib.hid hN
    clear h hN
    simp only [FL.p, FL.pv]
    simp only [FL.p] at WI
    simp only [] at hij
    have DB := Lib.hid (Bs.take (k := j) (H.out.bs.drop (k := i) (by show i ≤ N; omega)) (by show j ≤ N - i; omega))
    simp only [Nat.zero_add] at DB
    have hsub : i + j - i = j := by omega
    by_cases hc : capb = i
    · obtain rfl : j = 0 := by omega
      subst hc
      have CL := Lib.hid (clone_any _ _ _ _ w (Bs.empty w ⟨gb, 0, none⟩ 0 (by omega)) (by omega))
      go_enter Try.func64, Try.ntmps64
      go_wp2_with fail
      refine WI.out.mono ?_
      rintro e w' ⟨rfl, rfl⟩
      go_wp2_with fail
      refine CL.out.mono ?_
      rintro e w1 ⟨v1, rfl, o1, k1⟩
      go_wp2
      go_ret
      exact ⟨_, rfl, o1, k1⟩
    · have CL := Lib.hid (clone_any _ _ _ _ w DB.out (by omega))
      go_enter Try.func64, Try.ntmps64
      go_wp2_with fail
      refine WI.out.mono ?_
      rintro e w' ⟨rfl, rfl⟩
      go_wp2_with fail
      refine CL.out.mono ?_
      rintro e w1 ⟨v1, rfl, o1, k1⟩
      go_wp2
      go_ret
      exact ⟨_, rfl, o1, k1⟩
/-- Bytes and an error are told. -/
def ReadTold (w : World) (r : List Int × Int) (e : Ending) (w' : World) : Prop := ∃ v, e = .returned (.tuple #[v, .int .i64 r.2]) ∧ Own w' w.heap.size v r.1 ∧ Keeps None w w'
theorem slice_of_own {w : World} {B : Nat} {v : Value} {zs : List Int} (h : Own w B v zs) : ∃ A c, v = .slice A zs.length c ∧ Bs w A zs.length c zs := by
  obtain ⟨A, c, e, hb, -⟩ := h.shape
  exact ⟨A, c, e, hb⟩

set_option maxRecDepth 100000 in
theorem fread_any (B : Nat) (L : FL) (s : FS) (a m : Int) (w : World) (h : FAt w B L s) : Calls Try.prog 51 #[L.p, .int .i64 a, .int .i64 m] w (ReadTold w (s.readF a m)) := by
  have WI := Lib.hid (fwithin_any B L s a m w h)
  have PK := Lib.hid (fpeek_any B L s a m w h)
  have hbl := h.bl
  have hrf : s.readF a m = if s.dark = true then ([], 5) else if withinB a m L.N = true then (s.peekF a m, 0) else ([], 2) := by
    unfold FS.readF FS.peekF; rw [hbl]
    split
    · rfl
    · split <;> rfl
  cases hd : s.dark with
  | true =>
    rw [hd, if_pos rfl] at hrf
    rw [hrf]
    clear hrf hbl PK WI
    obtain ⟨bf, gb, ge, N, capb, n, af, pA, pc, pk⟩ := L
    have c0 := h.f.cellD 0 _ rfl
    have c1 := h.f.cellD 1 _ rfl
    have c2 := h.f.cellD 2 _ rfl
    have c3 := h.f.cellD 3 _ rfl
    have c4 := h.f.cellD 4 _ rfl
    have c5 := h.f.cellD 5 _ rfl
    have c6 := h.f.cellD 6 _ rfl
    have hcap := h.bs.le
    have hcmx := h.bs.max
    have hN := h.nN
    have hn0 := h.n0
    have hn9 := h.n9
    have H := Lib.hid h
    simp only [] at c0 c1 c2 c3 c4 c5 c6 hcap hcmx hN hn0 hn9
    have hNb : N ≤ 262144 := by omega
    have hN1 : 1024 ≤ N := by omega
    have HN := Lib.hid hN
    clear h hN
    simp only [FL.p, FL.pv]
    rw [hd] at c3
    clear hd
    go_enter Try.func51, Try.ntmps51
    go_wp2
    go_ret2
    exact ⟨_, rfl, Own.nil _ _, Keeps.refl _ _⟩
  | false =>
    rw [hd, if_neg (by decide)] at hrf
    cases hw : withinB a m L.N with
    | false =>
      rw [hw] at WI hrf
      rw [if_neg (by decide)] at hrf
      rw [hrf]
      clear hrf hbl PK hw
      obtain ⟨bf, gb, ge, N, capb, n, af, pA, pc, pk⟩ := L
      have c0 := h.f.cellD 0 _ rfl
      have c1 := h.f.cellD 1 _ rfl
      have c2 := h.f.cellD 2 _ rfl
      have c3 := h.f.cellD 3 _ rfl
      have c4 := h.f.cellD 4 _ rfl
      have c5 := h.f.cellD 5 _ rfl
      have c6 := h.f.cellD 6 _ rfl
      have hcap := h.bs.le
      have hcmx := h.bs.max
      have hN := h.nN
      have hn0 := h.n0
      have hn9 := h.n9
      have H := Lib.hid h
      simp only [] at c0 c1 c2 c3 c4 c5 c6 hcap hcmx hN hn0 hn9
      have hNb : N ≤ 262144 := by omega
      have hN1 : 1024 ≤ N := by omega
      have HN := Lib.hid hN
      clear h hN
      simp only [FL.p, FL.pv]
      rw [hd] at c3
      clear hd
      simp only [FL.p] at WI
      go_enter Try.func51, Try.ntmps51
      go_wp2_with fail
      refine WI.out.mono ?_
      rintro e w' ⟨rfl, rfl⟩
      go_wp2
      go_ret2
      exact ⟨_, rfl, Own.nil _ _, Keeps.refl _ _⟩
    | true =>
      rw [hw] at WI hrf
      rw [if_pos rfl] at hrf
      rw [hrf]
      generalize s.peekF a m = ps at *
      clear hrf hbl hw
      obtain ⟨bf, gb, ge, N, capb, n, af, pA, pc, pk⟩ := L
      have c0 := h.f.cellD 0 _ rfl
      have c1 := h.f.cellD 1 _ rfl
      have c2 := h.f.cellD 2 _ rfl
      have c3 := h.f.cellD 3 _ rfl
      have c4 := h.f.cellD 4 _ rfl
      have c5 := h.f.cellD 5 _ rfl
      have c6 := h.f.cellD 6 _ rfl
      have hcap := h.bs.le
      have hcmx := h.bs.max
      have hN := h.nN
      have hn0 := h.n0
      have hn9 := h.n9
      have H := Lib.hid h
      simp only [] at c0 c1 c2 c3 c4 c5 c6 hcap hcmx hN hn0 hn9
      have hNb : N ≤ 262144 := by omega
      have hN1 : 1024 ≤ N := by omega
      have HN := Lib.hid hN
      clear h hN
      simp only [FL.p, FL.pv]
      rw [hd] at c3
      clear hd
      simp only [FL.p] at WI PK
      go_enter Try.func51, Try.ntmps51
      go_wp2_with fail
      refine WI.out.mono ?_
      rintro e w' ⟨rfl, rfl⟩
      go_wp2_with fail
      refine PK.out.mono ?_
      rintro e w1 ⟨v1, rfl, o1, k1⟩
      go_wp2
      go_ret2
      exact ⟨_, rfl, o1, k1⟩

end Go.Proofs.Ytgehkioneelgcaa
