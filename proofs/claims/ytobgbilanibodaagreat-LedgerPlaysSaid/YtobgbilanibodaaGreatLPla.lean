
/- Texts put together: Base, Mix, Bytes, Bytes2, Crc, Mix2, Frame, Seal, SealPut, SealPut2, Mix3. -/
import Derived.Test.YtobgbilanibodaaGreatRows
import Derived.WalkKit
import Derived.WalkSpells
import Derived.WalkLawsBesides
import Derived.Deep.QuietTactic
import Derived.BigQuiet
import Derived.Lib.Hide
import Derived.Deep.Light
import Derived.StillTail
import Derived.ProofKit
import Derived.Deep.Slices
import Derived.Deep.Fields
import Derived.ChangeSame
import Derived.ChangeOld
import Derived.OpenShut
import Derived.ShutString
import Derived.Laws.BitsAllLaws
import Derived.Deep.WholeRow
import Derived.Laws.ResultCell
import Derived.Lib.AppendZerosOnto
import Derived.Lib.SliceRun
namespace Go.Proofs.YtobgbilanibodaaGreat
open Go.RowKit
theorem tds : (∀ {α : Type} (n : Nat) (a : α) (l : List α), (a :: l).take (n + 1) = a :: l.take n) ∧ (∀ {α : Type} (l : List α), l.take 0 = []) ∧ (∀ {α : Type} (n : Nat) (a : α) (l : List α), (a :: l).drop (n + 1) = l.drop n) ∧ (∀ {α : Type} (l : List α), l.drop 0 = l) :=
  ⟨fun _ _ _ => rfl, fun _ => rfl, fun _ _ _ => rfl, fun _ => rfl⟩
theorem aput {P : Prop} (h : P := by simp only [Act.put, List.setIfInBounds_toArray, List.set_cons_succ, List.set_cons_zero]; rfl) : P := h
theorem ret_int {k : IntKind} {a b : Int} (h : a = b) : Ending.returned (.int k a) = .returned (.int k b) := by rw [h]
theorem ret_bool {a b : Bool} (h : a = b) : Ending.returned (.bool a) = .returned (.bool b) := by rw [h]
theorem val_int {k : IntKind} {a b : Int} (h : a = b) : Value.int k a = .int k b := by rw [h]
def Blk (w : World) (b : Nat) (c : List Value) (T : TypeId) : Prop := w.heap[b]? = some (.cells c.toArray T (0, 0))
theorem Blk.cell {w : World} {b : Nat} {c : List Value} {T : TypeId} (h : Blk w b c T) (i : Nat) : w.cell? ⟨b, i, none⟩ = c[i]? := by
 unfold Blk at h; simp [World.cell?, h]
theorem Blk.cellD {w : World} {b : Nat} {c : List Value} {T : TypeId} (h : Blk w b c T) (i : Nat) (v : Value) (hi : c[i]? = some v) : w.cell? ⟨b, i, none⟩ = some v := by
 rw [h.cell, hi]
theorem Blk.frozen {w : World} {b : Nat} {c : List Value} {T : TypeId} (h : Blk w b c T) (i : Nat) : w.frozen? ⟨b, i, none⟩ = false := by
 unfold Blk at h; simp [World.frozen?, h]
theorem Blk.lt {w : World} {b : Nat} {c : List Value} {T : TypeId} (h : Blk w b c T) : b < w.heap.size := (Array.getElem?_eq_some_iff.1 h).1
theorem Blk.drew {w : World} {b : Nat} {c : List Value} {T : TypeId} (h : Blk w b c T) : Blk w.drew b c T := h
theorem Blk.new (w : World) (c : List Value) (T : TypeId) : Blk (w.alloc (.cells c.toArray T)) w.heap.size c T := by
 show (w.heap.push _)[_]? = _
 simp
theorem Blk.alloc {w : World} {b : Nat} {c : List Value} {T : TypeId} (h : Blk w b c T) (o : Obj) : Blk (w.alloc o) b c T := by
 have hlt := h.lt
 unfold Blk at h ⊢; rw [Below.heap_alloc _ _ _ hlt]; exact h
theorem Blk.set {w : World} {b : Nat} {c : List Value} {T : TypeId} (h : Blk w b c T) (i : Nat) (v : Value) : Blk (w.setCell ⟨b, i, none⟩ v) b (c.set i v) T := by
 unfold Blk at h ⊢; simp [World.setCell, Array.getElem?_modify, h]
theorem Blk.setOther {w : World} {b : Nat} {c : List Value} {T : TypeId} (h : Blk w b c T) (a : Addr) (v : Value) (hne : b ≠ a.block) : Blk (w.setCell a v) b c T := by
 unfold Blk at h ⊢; rw [Below.heap_setCell _ _ _ _ hne]; exact h
structure Keeps (S : Nat → Prop) (w w' : World) : Prop where
  os : w'.os = w.os
  tape : w'.tape = w.tape
  output : w'.output = w.output
  size : w.heap.size ≤ w'.heap.size
  block : ∀ k, k < w.heap.size → ¬ S k → w'.heap[k]? = w.heap[k]?
theorem Keeps.refl (S : Nat → Prop) (w : World) : Keeps S w w := ⟨rfl, rfl, rfl, Nat.le_refl _, fun _ _ _ => rfl⟩
theorem Keeps.trans {S S' T : Nat → Prop} {a b c : World} (h : Keeps S a b) (k : Keeps S' b c) (h1 : ∀ i, S i → T i) (h2 : ∀ i, i < a.heap.size → S' i → T i) : Keeps T a c :=
  ⟨k.os.trans h.os, k.tape.trans h.tape, k.output.trans h.output, Nat.le_trans h.size k.size, fun i hi hn =>
    (k.block i (Nat.lt_of_lt_of_le hi h.size) (fun e => hn (h2 i hi e))).trans (h.block i hi (fun e => hn (h1 i e)))⟩
theorem Keeps.mono {S T : Nat → Prop} {a b : World} (h : Keeps S a b) (h1 : ∀ i, i < a.heap.size → S i → T i) : Keeps T a b :=
  ⟨h.os, h.tape, h.output, h.size, fun i hi hn => h.block i hi (fun e => hn (h1 i hi e))⟩
theorem Keeps.drewN {S : Nat → Prop} {a b : World} (h : Keeps S a b) (n : Nat) : Keeps S a (b.drewN n) := ⟨h.os, h.tape, h.output, h.size, h.block⟩
theorem Keeps.drew {S : Nat → Prop} {a b : World} (h : Keeps S a b) : Keeps S a b.drew := ⟨h.os, h.tape, h.output, h.size, h.block⟩
theorem Keeps.alloc {S : Nat → Prop} {a b : World} (h : Keeps S a b) (o : Obj) : Keeps S a (b.alloc o) :=
  ⟨h.os, h.tape, h.output, Nat.le_trans h.size (by simp), fun i hi hn => (Below.heap_alloc _ _ _ (Nat.lt_of_lt_of_le hi h.size)).trans (h.block i hi hn)⟩
theorem Keeps.setCell {S : Nat → Prop} {a b : World} (h : Keeps S a b) (p : Addr) (v : Value) (hp : p.block < a.heap.size → S p.block) : Keeps S a (b.setCell p v) :=
  ⟨h.os, h.tape, h.output, by simpa using h.size, fun i hi hn => (Below.heap_setCell _ _ _ _ (fun e => hn (by subst e; exact hp hi))).trans (h.block i hi hn)⟩
theorem Keeps.put {b : Nat} {a c : World} (h : Keeps (fun k => k = b) a c) (i : Nat) (v : Value) : Keeps (fun k => k = b) a (c.setCell ⟨b, i, none⟩ v) := h.setCell _ _ (fun _ => rfl)
theorem Keeps.self (b : Nat) (w : World) : Keeps (fun k => k = b) w w := Keeps.refl _ _
theorem Keeps.blk {S : Nat → Prop} {a b : World} (h : Keeps S a b) {k : Nat} {c : List Value} {T : TypeId} (hb : Blk a k c T) (hn : ¬ S k) : Blk b k c T := by
 have hlt := hb.lt
 unfold Blk at hb ⊢; rw [h.block k hlt hn]; exact hb
theorem Keeps.cell {S : Nat → Prop} {a b : World} (h : Keeps S a b) {p : Addr} (hlt : p.block < a.heap.size) (hn : ¬ S p.block) : b.cell? p = a.cell? p := World.cell?_of_block (h.block _ hlt hn)
theorem Keeps.below {S : Nat → Prop} {a b : World} (h : Keeps S a b) (hn : ∀ k, k < a.heap.size → ¬ S k) : Below a.heap.size a b :=
  ⟨h.os, h.tape, h.output, h.size, fun k hk => h.block k hk (hn k hk)⟩
theorem Keeps.grown {S : Nat → Prop} {a b c : World} {row : Option Nat} (h : Keeps S a b) (hg : b.grownBy c row) (hr : ∀ k, row = some k → k < a.heap.size → S k) : Keeps S a c :=
  ⟨hg.os.trans h.os, hg.tape.trans h.tape, hg.output.trans h.output, Nat.le_trans h.size hg.size, fun i hi hn =>
    (hg.block i (Nat.lt_of_lt_of_le hi h.size) (fun e => hn (hr i e.symm hi))).trans (h.block i hi hn)⟩
def None : Nat → Prop := fun _ => False
theorem Keeps.ofNone {S : Nat → Prop} {a b : World} (h : Keeps None a b) : Keeps S a b := h.mono fun _ _ e => e.elim
theorem run_make_blk {P : Program} (t e : TypeId) (z : Value) (bytes : Nat) (ht : P.underlying t = some (.slice e))
    (hinfo : (P.info? e).map (fun i => (i.zero, i.size, i.bytes)) = some (some z, 1, bytes)) (hz : z.cells = #[z]) (kl kc : IntKind) (L C : Int) (n : Nat) (hL : L = n) (hC : C = n) (hb : bytes * n ≤ 281474976710656) (hm : n ≤ 9223372036854775807) (w : World) :
    (Instr.makeSlice t (.int kl L) (.int kc C)).run P w = .ok (.slice (some ⟨w.heap.size, 0, none⟩) n n) (w.alloc (.cells (List.replicate n z).toArray e)) := by
 obtain ⟨i, hi, hz0, hz1, hz2⟩ := info_parts hinfo
 subst hL hC
 have hb' : (i.bytes : Int) * (n : Int) ≤ 281474976710656 := by
  rw [hz2]
  have h : ((bytes * n : Nat) : Int) ≤ 281474976710656 := by omega
  rwa [Int.natCast_mul] at h
 have hr := run_make (P := P) w t e i z ht hi hz0 kl kc n n (by omega) (Int.le_refl _) hb' (by omega)
 rw [hr, hz, hz1]
 have : madeCells #[z] (n * 1) = (List.replicate n z).toArray := by
  rw [Nat.mul_one]; apply Array.ext'; simpa using toList_madeCells_one z n
 simp only [Int.toNat_natCast, this]
theorem wpList_append_run {P : Program} {ops : Array Oper} {rest : List Oper} {o : Oper} {a : Act} {w w' : World} {Q : Exit → Act → World → Prop} {s x : Operand} {t ty : TypeId} {v1 v2 v' : Value}
    (hr : (Builtin.append_ #[t, t] ty #[v1, v2]).run P w = .ok v' w') (hg : o.guard = none) (hty : o.type = ty) (ho : o.op = .call { callee := .builtin .append, args := #[s, x], argTypes := #[t, t] }) (hs : a.eval s = v1) (hx : a.eval x = v2)
    (h : wpList P ops Q rest (a.put o.dst v') w') : wpList P ops Q (o :: rest) a w := by
 refine wpList_plain hg fun K hK => ?_
 subst hty
 unfold Oper.wp execOp
 simp only [ho, resolve, invoke, builtin, Sem.run_bind, Sem.run_pure, Result.andThen_ok, List.map_toArray, List.map_cons, List.map_nil, hs, hx, hr]
 exact hK _ _ h
theorem map_get {α β : Type} {f : α → β} {l : List α} {i : Nat} (h : i < l.length) : (l.map f)[i]? = some (f l[i]) := by simp [h]
theorem getD_get {α : Type} {l : List α} {i : Nat} (d : α) (h : i < l.length) : l.getD i d = l[i] := by simp [List.getD, h]
theorem getD_mem {α : Type} {l : List α} {i : Nat} (d : α) (h : i < l.length) : l.getD i d ∈ l := by rw [getD_get d h]; exact List.getElem_mem _
theorem map_getD {α β : Type} {f : α → β} {l : List α} {i : Nat} (d : α) (h : i < l.length) : (l.map f)[i]? = some (f (l.getD i d)) := by rw [getD_get d h, map_get h]
open Go.RowKit
section Mix
variable {P : Program} {ops : Array Oper} {C : World → Prop} {Q : Exit → Act → World → Prop} {md : Region.Mode} {E : List Nat} {R : Act → World → Prop}
def plainOp (o : Oper) : Bool :=
  match o.op with
  | .move _ | .assign _ | .pick .. | .load .. | .nilCheck _ | .binOp .. | .unOp .. | .convert .. | .slice .. | .fieldAddr .. | .field .. | .indexAddr .. | .index .. | .extract .. | .build .. | .sliceToArrayPointer .. => true
  | .call c => match c.callee with
    | .builtin b => match b with | .len | .cap | .max | .min => true | _ => false
    | _ => false
  | _ => false
theorem value_no_enter (s : Sem Value) (w : World) (f : FuncId) (args : Array Value) (w' : World) : ((do pure (Next.value (← s)) : Sem Next)).run P w ≠ .ok (.enter f args) w' := by
 simp only [Sem.run_bind, Sem.run_pure]
 cases s.run P w <;> simp [Result.andThen]
theorem plain_no_enter {o : Oper} (h : plainOp o = true) (ρ : Operand → Value) (w : World) (f : FuncId) (args : Array Value) (w' : World) : (execOp ρ o).run P w ≠ .ok (.enter f args) w' := by
 unfold plainOp at h
 unfold execOp
 cases ho : o.op <;> simp only [ho] at h ⊢ <;> first | exact value_no_enter _ _ _ _ _ | cases h | skip
 case move => simp
 case assign => simp
 case pick c x y =>
  simp only [Sem.run_bind, Sem.run_pure]
  cases (asBool (ρ c)).run P w <;> simp [Result.andThen]
 case nilCheck x =>
  have hp : (runtimePanic .nilDeref : Sem Next).run P w ≠ .ok (.enter f args) w' := by
   simp [runtimePanic, goPanic, program, Sem.run]
  split <;> try exact hp
  ·split <;> try exact hp
   ·simp only [Sem.run_bind]
    intro hh
    generalize (Sem.run P program w) = r at hh
    cases r with
    | halt _ _ => simp [Result.andThen] at hh
    | ok pr w1 =>
     simp only [Result.andThen_ok] at hh
     generalize (Sem.run P (nilAhead _ _ _ _) w1) = r2 at hh
     cases r2 with
     | halt _ _ => simp [Result.andThen] at hh
     | ok q w2 =>
      simp only [Result.andThen_ok] at hh
      split at hh <;> simp [unsupported, Sem.run, Result.andThen] at hh
   ·simp
  ·simp
 case call c =>
  cases hc : c.callee <;> simp only [hc] at h <;> try cases h
  case builtin b =>
   cases b <;> simp only [] at h <;> try cases h
   all_goals
    simp only [resolve, hc, Sem.run_bind, Sem.run_pure, Result.andThen_ok, invoke, builtin]
    generalize Sem.run P _ w = r
    cases r <;> simp [Result.andThen]
def noExit : Exit → Act → World → Prop := fun _ _ _ => False
def descendB (md : Region.Mode) (ops : Array Oper) (i : Nat) : Nat → List Nat
  | 0 => []
  | n + 1 =>
    let d := descendB md ops i n
    if n == i || ((ops[n]?).map fun o => o.after.any fun e => Region.binds md e && d.contains e.on).getD false then n :: d else d
def openB (md : Region.Mode) (ops : Array Oper) (E : List Nat) (i : Nat) : Bool :=
  (List.range ops.size).any fun j => !E.contains j && !(descendB md ops j ops.size).contains i
def wpMixI (P : Program) (md : Region.Mode) (ops : Array Oper) (C : World → Prop) (E : List Nat) (R : Act → World → Prop) : List Nat → Act → World → Prop
  | [], a, w => R a w
  | i :: U, a, w =>
    match ops[i]? with
    | none => wpMixI P md ops C E R U a w
    | some o =>
      if Region.wanted o (yielded ops a.tmps) then
        if E.contains i then o.wp P a w (fun a' w' => (openB md ops E i = true → C w') ∧ wpMixI P md ops C E R U a' w') noExit
        else o.quiet P a C (fun a' => wpMixI P md ops C E R U a' w)
      else wpMixI P md ops C E R U (a.put o.dst undef) w
theorem wp_noExit {o : Oper} {a : Act} {w : World} {K : Act → World → Prop} (h : o.wp P a w K noExit) : o.wp P a w K Q := by
 unfold Oper.wp at *
 generalize (execOp a.eval o).run P w = r at *
 cases r with
 | ok n w' =>
  cases n <;> simp only [Oper.upon] at h ⊢ <;> try exact h
  exact Calls.mono h (fun e w'' he => by cases e <;> first | exact he | exact he.elim | exact (let ⟨_, _, hh⟩ := he; hh.elim))
 | halt x w' => cases x <;> simp only [Oper.upon] at h ⊢ <;> exact h.elim
def Leaves (o : Oper) (a a' : Act) : Prop := ∃ u ds, a' = ({ a with defers := ds } : Act).put o.dst u
theorem wp_some {o : Oper} {a : Act} {w : World} {K : Act → World → Prop} (h : o.wp P a w K noExit) : ∃ a' w', Leaves o a a' ∧ K a' w' := by
 unfold Oper.wp at h
 generalize (execOp a.eval o).run P w = r at h
 cases r with
 | ok n w' =>
  cases n <;> simp only [Oper.upon] at h <;> try exact h.elim
  case value v => exact ⟨_, _, ⟨v, a.defers, rfl⟩, h⟩
  case skip => exact ⟨_, _, ⟨undef, a.defers, rfl⟩, h⟩
  case defer d => exact ⟨_, _, ⟨undef, d :: a.defers, rfl⟩, h⟩
  case enter f args =>
   obtain ⟨e, w'', fr, hR, _⟩ := h []
   cases e with
   | returned v => exact ⟨_, _, ⟨v, a.defers, rfl⟩, hR⟩
   | panicked c => exact hR.elim
   | outgrown => obtain ⟨_, _, hh⟩ := hR; exact hh.elim
  case row row args =>
   obtain ⟨v, w'', hR, _⟩ := h default []
   exact ⟨_, _, ⟨v, a.defers, rfl⟩, hR⟩
 | halt x w' => cases x <;> simp only [Oper.upon] at h <;> exact h.elim
theorem wp_shift {o : Oper} {d : Option Tmp} {v : Value} {a : Act} {w : World} {K K' : Act → World → Prop} (hsel : ∀ cs b, o.op ≠ .select cs b)
    (h1 : ∀ t, d = some t → t ∉ o.looksAt ops) (h2 : ∀ t, d = some t → o.dst ≠ some t)
    (hK : ∀ a' w', Leaves o a a' → K a' w' → K' (a'.put d v) w') (h : o.wp P a w K Q) (hQ : ∀ e a a' w, Q e a w → Q e a' w) : o.wp P (a.put d v) w K' Q := by
 unfold Oper.wp at *
 rw [execOp_put o hsel a d v h1]
 have hc : ∀ u, (a.put o.dst u).put d v = (a.put d v).put o.dst u := fun u => (Act.put_comm a v u (fun t ht => h2 t ht)).symm
 generalize (execOp a.eval o).run P w = r at *
 cases r with
 | ok n w' =>
  cases n <;> simp only [Oper.upon] at h ⊢ <;> try exact h
  case value u => rw [← hc]; exact hK _ _ ⟨u, a.defers, rfl⟩ h
  case skip => rw [← hc]; exact hK _ _ ⟨undef, a.defers, rfl⟩ h
  case defer x =>
   have hh := hK _ _ ⟨undef, x :: a.defers, rfl⟩ h
   have e1 : ({ a.put d v with defers := x :: (a.put d v).defers } : Act).put o.dst undef = (({ a with defers := x :: a.defers } : Act).put o.dst undef).put d v := by
    rw [Act.put_defers]
    exact Act.put_comm _ v undef (fun t ht => h2 t ht)
   rw [e1]; exact hh
  case enter f args =>
   exact Calls.mono h (fun e w'' he => by
    cases e with
    | returned u => show K' _ _; rw [← hc]; exact hK _ _ ⟨u, a.defers, rfl⟩ he
    | panicked c => exact hQ _ _ _ _ he
    | outgrown => exact he)
  case row row args => exact Rows.mono h (fun u w'' he => by rw [← hc]; exact hK _ _ ⟨u, a.defers, rfl⟩ he)
 | halt x w' => cases x <;> simp only [Oper.upon] at h ⊢ <;> first | exact h | exact hQ _ _ _ _ h
theorem noExit_any : ∀ (e : Exit) (a a' : Act) (w : World), noExit e a w → noExit e a' w := fun _ _ _ _ h => h
theorem Leaves.eval {o p : Oper} {a a' : Act} (h : Leaves o a a') (hsel : ∀ cs b, p.op ≠ .select cs b) (h1 : ∀ t, o.dst = some t → t ∉ p.looksAt ops) :
    execOp a'.eval p = execOp a.eval p ∧ Region.wanted p (yielded ops a'.tmps) = Region.wanted p (yielded ops a.tmps) := by
 obtain ⟨u, ds, rfl⟩ := h
 refine ⟨?_, ?_⟩
 ·rw [execOp_put p hsel ({ a with defers := ds } : Act) o.dst u h1]
  rfl
 ·rw [wanted_put p ({ a with defers := ds } : Act) o.dst u h1]
theorem YieldsIn.of_leaves {o p : Oper} {a a' : Act} {v : Value} (h : Leaves p a a') (hsel : ∀ cs b, o.op ≠ .select cs b) (h1 : ∀ t, p.dst = some t → t ∉ o.looksAt ops) :
    YieldsIn P ops C o v a' ↔ YieldsIn P ops C o v a := by
 obtain ⟨e1, e2⟩ := h.eval (ops := ops) hsel h1
 exact ⟨fun hy => hy.of_same e1.symm e2.symm, fun hy => hy.of_same e1 e2⟩
theorem YieldsIn.one {o : Oper} {a : Act} {v u : Value} {w : World} (hp : plainOp o = true) (hw : C w) (h : YieldsIn P ops C o v a) (k : YieldsIn P ops C o u a) : v = u := by
 rcases h with ⟨hn, h⟩ | ⟨hn, rfl⟩
 ·rcases k with ⟨_, k⟩ | ⟨kn, _⟩
  ·have h' := h w hw
   have k' := k w hw
   unfold Oper.quietAt at h' k'
   have hne := plain_no_enter (P := P) hp a.eval w
   generalize (execOp a.eval o).run P w = r at h' k' hne
   cases r with
   | halt _ _ => exact h'.elim
   | ok n w' =>
    cases n <;> simp only [Oper.quietUpon] at h' k' <;> try exact h'.elim
    case value x => exact h'.2.symm.trans k'.2
    case skip => exact h'.2.trans k'.2.symm
    case enter f args => exact absurd rfl (hne f args w')
  ·rw [hn] at kn; cases kn
 ·rcases k with ⟨kn, _⟩ | ⟨_, rfl⟩
  ·rw [hn] at kn; cases kn
  ·rfl
def selFree (ops : Array Oper) : Prop := ∀ (j : Nat) (o : Oper) cs b, ops[j]? = some o → o.op ≠ .select cs b
theorem mix_cons {i : Nat} {o : Oper} {U : List Nat} {a : Act} {w : World} (ho : ops[i]? = some o) :
    wpMixI P md ops C E R (i :: U) a w = (if Region.wanted o (yielded ops a.tmps) then
        if E.contains i then o.wp P a w (fun a' w' => (openB md ops E i = true → C w') ∧ wpMixI P md ops C E R U a' w') noExit
        else o.quiet P a C (fun a' => wpMixI P md ops C E R U a' w)
      else wpMixI P md ops C E R U (a.put o.dst undef) w) := by
  rw [wpMixI]; simp only [ho]
theorem mix_none {i : Nat} {U : List Nat} {a : Act} {w : World} (ho : ops[i]? = none) : wpMixI P md ops C E R (i :: U) a w = wpMixI P md ops C E R U a w := by
 rw [wpMixI]; simp only [ho]
theorem mix_pickA (hsel : selFree ops) {i : Nat} {o : Oper} (ho : ops[i]? = some o) (hi : E.contains i = false) (hp : plainOp o = true) (post : List Nat) :
    ∀ (pre : List Nat) (a : Act) (w : World), (∀ p ∈ pre, ∀ op, ops[p]? = some op → op.apart ops o = true) → (∀ p ∈ pre, E.contains p = true → openB md ops E p = true) →
      C w → wpMixI P md ops C E R (pre ++ i :: post) a w → ∃ v, YieldsIn P ops C o v a ∧ wpMixI P md ops C E R (pre ++ post) (a.put o.dst v) w
  | [], a, w, _, _, _, h => by
    rw [List.nil_append, mix_cons ho, hi] at h
    by_cases hw : Region.wanted o (yielded ops a.tmps) = true
    · simp only [hw, if_true, Bool.false_eq_true, if_false] at h
      obtain ⟨v, h1, h2⟩ := h
      exact ⟨v, .inl ⟨hw, h1⟩, h2⟩
    · simp only [hw, Bool.false_eq_true, if_false] at h
      exact ⟨undef, .inr ⟨by simpa using hw, rfl⟩, h⟩
  | p :: pre, a, w, hap, hop, hC, h => by
    have hap' : ∀ q ∈ pre, ∀ op, ops[q]? = some op → op.apart ops o = true := fun q hq => hap q (List.mem_cons_of_mem _ hq)
    have hop' : ∀ q ∈ pre, E.contains q = true → openB md ops E q = true := fun q hq => hop q (List.mem_cons_of_mem _ hq)
    have IH := mix_pickA hsel ho hi hp post pre
    cases hop0 : ops[p]? with
    | none =>
      rw [List.cons_append, mix_none hop0] at h
      obtain ⟨v, h1, h2⟩ := IH a w hap' hop' hC h
      exact ⟨v, h1, by rw [List.cons_append, mix_none hop0]; exact h2⟩
    | some op =>
      obtain ⟨ap1, ap2, ap3⟩ := Oper.apart_spec (hap p List.mem_cons_self op hop0)
      have so : ∀ cs b, o.op ≠ .select cs b := fun cs b => hsel i o cs b ho
      have sp : ∀ cs b, op.op ≠ .select cs b := fun cs b => hsel p op cs b hop0
      rw [List.cons_append, mix_cons hop0] at h
      have hwv : ∀ v, Region.wanted op (yielded ops (a.put o.dst v).tmps) = Region.wanted op (yielded ops a.tmps) := fun v => wanted_put op a o.dst v ap3
      have ap2' : ∀ t, o.dst = some t → op.dst ≠ some t := fun t ht hh => ap2 t hh ht
      by_cases hw : Region.wanted op (yielded ops a.tmps) = true
      · simp only [hw, if_true] at h
        cases hE : E.contains p with
        | true =>
          simp only [hE, if_true] at h
          have hopen := hop p List.mem_cons_self hE
          obtain ⟨a1, w1, hl1, hc1, hr1⟩ := wp_some h
          obtain ⟨v, hy, _⟩ := IH a1 w1 hap' hop' (hc1 hopen) hr1
          have hyv := (YieldsIn.of_leaves (P := P) (C := C) hl1 so ap1).1 hy
          refine ⟨v, hyv, ?_⟩
          rw [List.cons_append, mix_cons hop0]
          simp only [hwv, hw, if_true, hE]
          refine wp_shift (ops := ops) sp ap3 ap2' (fun a' w' hl hk => ⟨hk.1, ?_⟩) h noExit_any
          obtain ⟨u, hyu, hru⟩ := IH a' w' hap' hop' (hk.1 hopen) hk.2
          have e : u = v := YieldsIn.one hp hC ((YieldsIn.of_leaves (P := P) (C := C) hl so ap1).1 hyu) hyv
          rw [← e]; exact hru
        | false =>
          simp only [hE, Bool.false_eq_true, if_false] at h
          obtain ⟨u, hu, hr⟩ := h
          obtain ⟨v, hy, hrv⟩ := IH _ w hap' hop' hC hr
          have hyv := (YieldsIn.of_leaves (P := P) (C := C) ⟨u, a.defers, rfl⟩ so ap1).1 hy
          refine ⟨v, hyv, ?_⟩
          rw [List.cons_append, mix_cons hop0]
          simp only [hwv, hw, if_true, hE, Bool.false_eq_true, if_false]
          refine ⟨u, fun w' hw' => ?_, ?_⟩
          · have := hu w' hw'
            unfold Oper.quietAt at *
            rwa [execOp_put op sp a o.dst v ap3]
          · rw [Act.put_comm a v u (fun t ht => ap2' t ht)]; exact hrv
      · simp only [hw, Bool.false_eq_true, if_false] at h
        obtain ⟨v, hy, hrv⟩ := IH _ w hap' hop' hC h
        have hyv := (YieldsIn.of_leaves (P := P) (C := C) ⟨undef, a.defers, rfl⟩ so ap1).1 hy
        refine ⟨v, hyv, ?_⟩
        rw [List.cons_append, mix_cons hop0]
        simp only [hwv, hw, Bool.false_eq_true, if_false]
        rw [Act.put_comm a v undef (fun t ht => ap2' t ht)]; exact hrv
theorem mix_pickB (hsel : selFree ops) {i : Nat} {o : Oper} (ho : ops[i]? = some o) (hi : E.contains i = true) (post : List Nat) :
    ∀ (pre : List Nat) (a : Act) (w : World), (∀ p ∈ pre, ∀ op, ops[p]? = some op → op.apart ops o = true) → (∀ p ∈ pre, E.contains p = false) →
      wpMixI P md ops C E R (pre ++ i :: post) a w →
      (Region.wanted o (yielded ops a.tmps) = true ∧ o.wp P a w (fun a' w' => (openB md ops E i = true → C w') ∧ wpMixI P md ops C E R (pre ++ post) a' w') noExit) ∨
      (Region.wanted o (yielded ops a.tmps) = false ∧ wpMixI P md ops C E R (pre ++ post) (a.put o.dst undef) w)
  | [], a, w, _, _, h => by
    rw [List.nil_append, mix_cons ho, hi] at h
    by_cases hw : Region.wanted o (yielded ops a.tmps) = true
    · simp only [hw, if_true] at h
      exact .inl ⟨hw, h⟩
    · simp only [hw, Bool.false_eq_true, if_false] at h
      exact .inr ⟨by simpa using hw, h⟩
  | p :: pre, a, w, hap, hne, h => by
    have hap' : ∀ q ∈ pre, ∀ op, ops[q]? = some op → op.apart ops o = true := fun q hq => hap q (List.mem_cons_of_mem _ hq)
    have hne' : ∀ q ∈ pre, E.contains q = false := fun q hq => hne q (List.mem_cons_of_mem _ hq)
    have IH := mix_pickB hsel ho hi post pre
    cases hop0 : ops[p]? with
    | none =>
      rw [List.cons_append, mix_none hop0] at h
      simpa only [List.cons_append, mix_none hop0] using IH a w hap' hne' h
    | some op =>
      obtain ⟨ap1, ap2, ap3⟩ := Oper.apart_spec (hap p List.mem_cons_self op hop0)
      have so : ∀ cs b, o.op ≠ .select cs b := fun cs b => hsel i o cs b ho
      have sp : ∀ cs b, op.op ≠ .select cs b := fun cs b => hsel p op cs b hop0
      have hE := hne p List.mem_cons_self
      have ap2' : ∀ t, o.dst = some t → op.dst ≠ some t := fun t ht hh => ap2 t hh ht
      rw [List.cons_append, mix_cons hop0] at h
      have go : ∀ u, wpMixI P md ops C E R (pre ++ i :: post) (a.put op.dst u) w →
          (∀ a' w', (execOp a'.eval op = execOp a.eval op ∧ Region.wanted op (yielded ops a'.tmps) = Region.wanted op (yielded ops a.tmps)) → wpMixI P md ops C E R (pre ++ post) (a'.put op.dst u) w' → wpMixI P md ops C E R (p :: pre ++ post) a' w') →
          (Region.wanted o (yielded ops a.tmps) = true ∧ o.wp P a w (fun a' w' => (openB md ops E i = true → C w') ∧ wpMixI P md ops C E R (p :: pre ++ post) a' w') noExit) ∨
          (Region.wanted o (yielded ops a.tmps) = false ∧ wpMixI P md ops C E R (p :: pre ++ post) (a.put o.dst undef) w) := by
        intro u hu hback
        have hwo : Region.wanted o (yielded ops (a.put op.dst u).tmps) = Region.wanted o (yielded ops a.tmps) := wanted_put o a op.dst u ap1
        rcases IH _ w hap' hne' hu with ⟨h1, h2⟩ | ⟨h1, h2⟩
        · refine .inl ⟨by rw [← hwo]; exact h1, ?_⟩
          unfold Oper.wp at h2 ⊢
          rw [execOp_put o so a op.dst u ap1] at h2
          have hc : ∀ x, (a.put op.dst u).put o.dst x = (a.put o.dst x).put op.dst u := fun x => Act.put_comm a u x (fun t ht => ap2 t ht)
          have same : ∀ x ds, execOp (({ a with defers := ds } : Act).put o.dst x).eval op = execOp a.eval op ∧ Region.wanted op (yielded ops (({ a with defers := ds } : Act).put o.dst x).tmps) = Region.wanted op (yielded ops a.tmps) :=
            fun x ds => Leaves.eval (o := o) ⟨x, ds, rfl⟩ sp ap3
          generalize (execOp a.eval o).run P w = r at *
          cases r with
          | ok n w' =>
            cases n <;> simp only [Oper.upon] at h2 ⊢ <;> try exact h2
            case value x => rw [hc] at h2; exact ⟨h2.1, hback _ _ (same x a.defers) h2.2⟩
            case skip => rw [hc] at h2; exact ⟨h2.1, hback _ _ (same undef a.defers) h2.2⟩
            case defer x =>
              have e1 : ({ a.put op.dst u with defers := x :: (a.put op.dst u).defers } : Act).put o.dst undef = (({ a with defers := x :: a.defers } : Act).put o.dst undef).put op.dst u := by
                rw [Act.put_defers]
                exact Act.put_comm _ u undef (fun t ht => ap2 t ht)
              rw [e1] at h2
              exact ⟨h2.1, hback _ _ (same undef (x :: a.defers)) h2.2⟩
            case enter f args =>
              exact Calls.mono h2 (fun e w'' he => by
                cases e with
                | returned x =>
                  have he' : (openB md ops E i = true → C w'') ∧ wpMixI P md ops C E R (pre ++ post) ((a.put op.dst u).put o.dst x) w'' := he
                  rw [hc] at he'
                  exact ⟨he'.1, hback _ _ (same x a.defers) he'.2⟩
                | panicked c => exact he
                | outgrown => exact he)
            case row row args => exact Rows.mono h2 (fun x w'' he => by rw [hc] at he; exact ⟨he.1, hback _ _ (same x a.defers) he.2⟩)
          | halt x w' => cases x <;> simp only [Oper.upon] at h2 ⊢ <;> exact h2
        · refine .inr ⟨by rw [← hwo]; exact h1, hback _ _ (Leaves.eval (o := o) ⟨undef, a.defers, rfl⟩ sp ap3) ?_⟩
          rw [← Act.put_comm a u undef (fun t ht => ap2 t ht)]; exact h2
      by_cases hw : Region.wanted op (yielded ops a.tmps) = true
      · simp only [hw, if_true, hE, Bool.false_eq_true, if_false] at h
        obtain ⟨u, hu, hr⟩ := h
        refine go u hr fun a' w' hs hr' => ?_
        rw [List.cons_append, mix_cons hop0]
        simp only [hs.2, hw, if_true, hE, Bool.false_eq_true, if_false]
        refine ⟨u, fun w'' hw'' => ?_, hr'⟩
        have := hu w'' hw''
        unfold Oper.quietAt at *
        rwa [hs.1]
      · simp only [hw, Bool.false_eq_true, if_false] at h
        refine go undef h fun a' w' hs hr' => ?_
        rw [List.cons_append, mix_cons hop0]
        simp only [hs.2, hw, Bool.false_eq_true, if_false]
        exact hr'
def unlB (ops : Array Oper) (listed : Array Bool) : List Nat := (List.range ops.size).filter fun i => !listed.getD i true
def mixB (md : Region.Mode) (ops : Array Oper) (E : List Nat) : Bool :=
  Region.noSelect ops && (List.range ops.size).all fun i => match ops[i]? with
    | none => true
    | some o => o.after.all (fun e => !Region.binds md e || decide (e.on < i)) && (E.contains i || plainOp o) &&
      (List.range i).all fun p => match ops[p]? with
        | none => true
        | some op => (o.after.any (fun e => Region.binds md e && e.on == p) || op.apart ops o) &&
          (!(E.contains p && E.contains i) || (descendB md ops p ops.size).contains i)
structure MixOk (md : Region.Mode) (ops : Array Oper) (E : List Nat) : Prop where
  sel : selFree ops
  topo : ∀ i o, ops[i]? = some o → ∀ e ∈ o.after, Region.binds md e = true → e.on < i
  plain : ∀ i o, ops[i]? = some o → E.contains i = false → plainOp o = true
  apart : ∀ i o p op, ops[i]? = some o → ops[p]? = some op → p < i → (∃ e ∈ o.after, Region.binds md e = true ∧ e.on = p) ∨ op.apart ops o = true
  chain : ∀ i o p op, ops[i]? = some o → ops[p]? = some op → p < i → E.contains p = true → E.contains i = true → i ∈ descendB md ops p ops.size
theorem tl1 (P : Prop) (h : P := by
 intro i o ho e he hb
 have := Array.all_eq_true'.1 (get i o ho).1.1 e he
 simp only [hb, Bool.not_true, Bool.false_or, decide_eq_true_eq] at this
 exact this) : P := h
theorem tl3 (P : Prop) (h : P := by
 obtain ⟨e, he, hb⟩ := Array.any_eq_true'.1 h1
 simp only [Bool.and_eq_true, beq_iff_eq] at hb
 exact .inl ⟨e, he, hb⟩) : P := h
theorem tl2 (P : Prop) (h : P := by
 rcases this.1 with h1 | h1
 ·exact tl3 _
 ·exact .inr h1) : P := h
theorem mixB_ok (h : mixB md ops E = true) : MixOk md ops E := by
 unfold mixB at h
 simp only [Bool.and_eq_true, List.all_eq_true, List.mem_range] at h
 obtain ⟨hs, h⟩ := h
 have lt : ∀ i o, ops[i]? = some o → i < ops.size := fun i o ho => (Array.getElem?_eq_some_iff.1 ho).1
 have get : ∀ i o, ops[i]? = some o → _ := fun i o ho => by
  have := h i (lt i o ho)
  simp only [ho, Bool.and_eq_true] at this
  exact this
 refine ⟨Region.noSelect_spec hs, ?_, ?_, ?_, ?_⟩
 ·exact tl1 _
 ·intro i o ho hE
  have := (get i o ho).1.2
  rwa [hE, Bool.false_or] at this
 ·intro i o p op ho hp hlt
  have := List.all_eq_true.1 (get i o ho).2 p (List.mem_range.2 hlt)
  simp only [hp, Bool.and_eq_true, Bool.or_eq_true] at this
  exact tl2 _
 ·intro i o p op ho hp hlt h1 h2
  have := List.all_eq_true.1 (get i o ho).2 p (List.mem_range.2 hlt)
  simp only [hp, Bool.and_eq_true] at this
  have h3 := this.2
  rw [h1, h2] at h3
  simpa using h3
theorem descend_ge (ht : ∀ i o, ops[i]? = some o → ∀ e ∈ o.after, Region.binds md e = true → e.on < i) (i : Nat) : ∀ n, ∀ j ∈ descendB md ops i n, i ≤ j
  | 0, j, h => by simp [descendB] at h
  | n + 1, j, h => by
    have IH := descend_ge ht i n
    unfold descendB at h
    simp only [] at h
    split at h
    · rename_i hc
      rcases List.mem_cons.1 h with rfl | h
      · simp only [Bool.or_eq_true, beq_iff_eq] at hc
        rcases hc with rfl | hc
        · exact Nat.le_refl _
        · cases ho : ops[j]? with
          | none => simp [ho] at hc
          | some o =>
            simp only [ho, Option.map_some, Option.getD_some] at hc
            obtain ⟨e, he, hb⟩ := Array.any_eq_true'.1 hc
            simp only [Bool.and_eq_true, List.contains_iff_mem] at hb
            have h1 := ht j o ho e he hb.1
            have h2 := IH _ hb.2
            omega
      · exact IH j h
    · exact IH j h
theorem descend_listed {listed : Array Bool} (hcl : ∀ j oj, ops[j]? = some oj → listed.getD j false = true → ∀ e ∈ oj.after, Region.binds md e = true → listed.getD e.on false = true) (i : Nat) :
    ∀ n, ∀ j ∈ descendB md ops i n, (listed.getD j false = true → listed.getD i false = true) ∧ (j ≠ i → (∀ oj, ops[j]? = some oj → ∀ e ∈ oj.after, Region.binds md e = true → listed.getD e.on false = true) → listed.getD i false = true)
  | 0, j, h => by simp [descendB] at h
  | n + 1, j, h => by
    have IH := descend_listed hcl i n
    unfold descendB at h
    simp only [] at h
    split at h
    · rename_i hc
      rcases List.mem_cons.1 h with rfl | h
      · simp only [Bool.or_eq_true, beq_iff_eq] at hc
        have key : (∀ oj, ops[j]? = some oj → ∀ e ∈ oj.after, Region.binds md e = true → listed.getD e.on false = true) → j ≠ i → listed.getD i false = true := by
          intro hall hne
          rcases hc with hc | hc
          · exact absurd hc hne
          · cases ho : ops[j]? with
            | none => simp [ho] at hc
            | some o =>
              simp only [ho, Option.map_some, Option.getD_some] at hc
              obtain ⟨e, he, hb⟩ := Array.any_eq_true'.1 hc
              simp only [Bool.and_eq_true, List.contains_iff_mem] at hb
              exact (IH _ hb.2).1 (hall o ho e he hb.1)
        refine ⟨fun hl => ?_, fun hne hall => key hall hne⟩
        by_cases hji : j = i
        · rw [← hji]; exact hl
        · exact key (fun oj hoj e he hb => hcl j oj hoj hl e he hb) hji
      · exact IH j h
    · exact IH j h
theorem mem_unl {listed : Array Bool} {i : Nat} : i ∈ unlB ops listed ↔ i < ops.size ∧ listed.getD i true = false := by
 simp [unlB]
theorem wpOp_of_yields {i : Nat} {o : Oper} {v : Value} {a : Act} {w : World} {K : Act → World → Prop} (ho : ops[i]? = some o) (hp : plainOp o = true) (hw : C w) (hy : YieldsIn P ops C o v a) (h : K (a.put o.dst v) w) : wpOp P ops Q i K a w := by
 unfold wpOp
 simp only [ho]
 rcases hy with ⟨hn, hy⟩ | ⟨hn, rfl⟩
 ·simp only [hn, if_true]
  left
  have hy' := hy w hw
  unfold Oper.quietAt at hy'
  unfold Oper.wp
  have hne := plain_no_enter (P := P) hp a.eval w
  generalize (execOp a.eval o).run P w = r at *
  cases r with
  | halt _ _ => exact hy'.elim
  | ok n w' =>
   cases n <;> simp only [Oper.quietUpon] at hy' <;> try exact hy'.elim
   case value x => obtain ⟨rfl, rfl⟩ := hy'; exact h
   case skip => obtain ⟨rfl, rfl⟩ := hy'; exact h
   case enter f args => exact absurd rfl (hne f args w')
 ·simp only [hn, Bool.false_eq_true, if_false]; exact h
theorem tl6 (P : Prop) (h : P := by
 have hx : x ∈ Region.ready md ops listed := by rw [hr]; exact List.mem_cons_self
 obtain ⟨h1, o, ho, _⟩ := mem_ready.1 hx
 have : x ∈ unlB ops listed := mem_unl.2 ⟨(Array.getElem?_eq_some_iff.1 ho).1, h1⟩
 rw [hu] at this; cases this) : P := h
theorem tl5 (P : Prop) (h : P := by
 cases hr : Region.ready md ops listed with
 | nil => rfl
 | cons x xs =>
  exact tl6 _) : P := h
theorem tl4 (P : Prop) (h : P := by
 have hu : unlB ops listed = [] := List.eq_nil_of_length_eq_zero (Nat.le_zero.1 hlen)
 rw [hu] at h
 refine ⟨?_, h⟩
 exact tl5 _) : P := h
theorem tl10 (P : Prop) (h : P := by
 have hm : e.on ∈ unlB ops listed := mem_unl.2 ⟨by omega, getD_in (by omega) hl⟩
 rw [hu] at hm
 rcases List.mem_cons.1 hm with hm | hm
 ·omega
 ·have := hpw.1 _ hm; omega) : P := h
theorem tl9 (P : Prop) (h : P := by
 refine mem_ready.2 ⟨hun, ops[i0], by simp [hlt], fun e he hb => ?_⟩
 have hon := ok.topo i0 ops[i0] (by simp [hlt]) e he hb
 cases hl : listed.getD e.on false with
 | true => rfl
 | false =>
  exact tl10 _) : P := h
theorem tl8 (P : Prop) (h : P := by
 exfalso
 have hi0 : i0 ∈ unlB ops listed := by rw [hu]; exact List.mem_cons_self
 obtain ⟨hlt, hun⟩ := mem_unl.1 hi0
 have hpw : (unlB ops listed).Pairwise (· < ·) := List.Pairwise.filter _ List.pairwise_lt_range
 rw [hu, List.pairwise_cons] at hpw
 have : i0 ∈ Region.ready md ops listed := by
  exact tl9 _
 rw [hr] at this; cases this) : P := h
theorem tl7 (P : Prop) (h : P := by
 cases hu : unlB ops listed with
 | nil => rw [hu] at h; exact h
 | cons i0 U =>
  exact tl8 _) : P := h
theorem tl11 (P : Prop) (h : P := by
 intro p hp op hop
 rcases ok.apart i o p op ho hop (hpre p hp) with ⟨e, he, hb, hon⟩ | h1
 ·have h2 := hall e he hb
  rw [hon, getD_both (hunp p hp)] at h2
  cases h2
 ·exact h1) : P := h
theorem tl12 (P : Prop) (h : P := by
 intro j oj hj hl e he hb
 by_cases hij : i = j
 ·subst hij
  have : oj = o := Option.some.inj (hj.symm.trans ho)
  subst this
  exact getD_set_true (hall e he hb)
 ·rw [getD_set_ne false hij] at hl
  exact getD_set_true (hcl j oj hj hl e he hb)) : P := h
theorem tl16 (P : Prop) (h : P := by
 subst hij
 have : (listed.setIfInBounds i true).getD i true = true := by
  have : i < listed.size := by omega
  simp [this]
 simp [this]) : P := h
theorem tl15 (P : Prop) (h : P := by
 rw [List.filter_filter]
 refine List.filter_congr fun j hj => ?_
 by_cases hij : i = j
 ·exact tl16 _
 ·rw [getD_set_ne true hij]
  have : (j != i) = true := by simp; exact fun e => hij e.symm
  simp [this]) : P := h
theorem tl14 (P : Prop) (h : P := by
 unfold unlB
 exact tl15 _) : P := h
theorem tl17 (P : Prop) (h : P := by
 have f1 : pre.filter (fun j => j != i) = pre := List.filter_eq_self.2 fun p hp => by have := hpre p hp; simp; omega
 have f2 : post.filter (fun j => j != i) = post := List.filter_eq_self.2 fun p hp => by have := hpost p hp; simp; omega
 simp [f1, f2]) : P := h
theorem tl13 (P : Prop) (h : P := by
 have e1 : unlB ops (listed.setIfInBounds i true) = (unlB ops listed).filter (fun j => j != i) := by
  exact tl14 _
 rw [e1, hsplit, List.filter_append, List.filter_cons]
 exact tl17 _) : P := h
theorem tl19 (P : Prop) (h : P := by
 exact ⟨by have := hpost j hj; omega, (mem_unl.1 (by rw [hsplit]; exact List.mem_append_right _ (List.mem_cons_of_mem _ hj))).2⟩) : P := h
theorem tl18 (P : Prop) (h : P := by
 intro j hj
 rcases List.mem_append.1 hj with hj | hj
 ·exact ⟨by have := hpre j hj; omega, hunp j hj⟩
 ·exact tl19 _) : P := h
theorem tl20 (P : Prop) (h : P := by
 intro j hne hl hd
 have := (descend_listed hcl j ops.size i hd).2 (fun e => hne e.symm) (fun oj hoj e he hb => by
  have : oj = o := Option.some.inj (hoj.symm.trans ho)
  subst this
  exact hall e he hb)
 rw [getD_both hl] at this
 cases this) : P := h
theorem tl21 (P : Prop) (h : P := by
 obtain ⟨v, hy, hr⟩ := mix_pickA ok.sel ho hE (ok.plain i o ho hE) post pre a w hap hopen hCw h
 exact wpOp_of_yields ho (ok.plain i o ho hE) hCw hy (keep _ _ (fun _ _ _ => hCw) hr)) : P := h
theorem tl23 (P : Prop) (h : P := by
 have hplt : p < ops.size := by have := hpre p hp; omega
 have := ok.chain i o p ops[p] ho (by simp [hplt]) (hpre p hp) hEp hE
 exact absurd this (hnot p (by have := hpre p hp; omega) (hunp p hp))) : P := h
theorem tl22 (P : Prop) (h : P := by
 cases hEp : E.contains p with
 | false => rfl
 | true =>
  exact tl23 _) : P := h
theorem tl24 (P : Prop) (h : P := by
 rw [hsplit]
 rcases List.mem_append.1 hj with hj | hj
 ·exact List.mem_append_left _ hj
 ·exact List.mem_append_right _ (List.mem_cons_of_mem _ hj)) : P := h
theorem tl25 (P : Prop) (h : P := by
 simp only [h1, Bool.false_eq_true, if_false]
 refine keep _ _ (fun j hj hEj => hC j ?_ hEj) h2
 exact tl24 _) : P := h
theorem mix_any (ok : MixOk md ops E) : ∀ (n : Nat) (listed : Array Bool) (a : Act) (w : World), (unlB ops listed).length ≤ n → listed.size = ops.size →
    (∀ j oj, ops[j]? = some oj → listed.getD j false = true → ∀ e ∈ oj.after, Region.binds md e = true → listed.getD e.on false = true) →
    (∀ j ∈ unlB ops listed, E.contains j = false → C w) → wpMixI P md ops C E (fun a w => Q .normal a w) (unlB ops listed) a w → wpAny P md ops Q n listed a w := by
 intro n
 induction n with
 | zero =>
  intro listed a w hlen hsz hcl hC h
  exact tl4 _
 | succ n ih =>
  intro listed a w hlen hsz hcl hC h
  refine ⟨fun hr => ?_, fun i hi => ?_⟩
  ·-- nothing may come up: nothing is left
   exact tl7 _
  ·obtain ⟨hun, o, ho, hall⟩ := mem_ready.1 hi
   have hlt : i < ops.size := (Array.getElem?_eq_some_iff.1 ho).1
   have hmem : i ∈ unlB ops listed := mem_unl.2 ⟨hlt, hun⟩
   obtain ⟨pre, post, hsplit⟩ := List.append_of_mem hmem
   have hpw : (unlB ops listed).Pairwise (· < ·) := List.Pairwise.filter _ List.pairwise_lt_range
   rw [hsplit] at hpw
   have hpre : ∀ p ∈ pre, p < i := fun p hp => (List.pairwise_append.1 hpw).2.2 p hp i List.mem_cons_self
   have hpost : ∀ p ∈ post, i < p := fun p hp => (List.pairwise_cons.1 (List.pairwise_append.1 hpw).2.1).1 p hp
   have hunp : ∀ p ∈ pre, listed.getD p true = false := fun p hp => (mem_unl.1 (by rw [hsplit]; exact List.mem_append_left _ hp)).2
   have hap : ∀ p ∈ pre, ∀ op, ops[p]? = some op → op.apart ops o = true := by
    exact tl11 _
   have hsz' : (listed.setIfInBounds i true).size = ops.size := by simp [hsz]
   have hcl' : ∀ j oj, ops[j]? = some oj → (listed.setIfInBounds i true).getD j false = true → ∀ e ∈ oj.after, Region.binds md e = true → (listed.setIfInBounds i true).getD e.on false = true := by
    exact tl12 _
   have hu' : unlB ops (listed.setIfInBounds i true) = pre ++ post := by
    exact tl13 _
   have hlen' : (unlB ops (listed.setIfInBounds i true)).length ≤ n := by
    rw [hu']; rw [hsplit] at hlen; simp at hlen ⊢; omega
   have hun' : ∀ j ∈ pre ++ post, j ≠ i ∧ listed.getD j true = false := by
    exact tl18 _
   have hnot : ∀ j, j ≠ i → listed.getD j true = false → i ∉ descendB md ops j ops.size := by
    exact tl20 _
   rw [hsplit] at h
   have keep : ∀ a' w', (∀ j ∈ pre ++ post, E.contains j = false → C w') → wpMixI P md ops C E (fun a w => Q .normal a w) (pre ++ post) a' w' → wpAny P md ops Q n (listed.setIfInBounds i true) a' w' :=
    fun a' w' hc hh => ih _ a' w' hlen' hsz' hcl' (by rw [hu']; exact hc) (by rw [hu']; exact hh)
   cases hE : E.contains i with
   | false =>
    have hCw := hC i hmem hE
    have hopen : ∀ p ∈ pre, E.contains p = true → openB md ops E p = true := by
     intro p hp _
     unfold openB
     refine List.any_eq_true.2 ⟨i, List.mem_range.2 hlt, ?_⟩
     rw [hE]
     have : p ∉ descendB md ops i ops.size := fun hd => by have := descend_ge ok.topo i _ p hd; have := hpre p hp; omega
     simp [this]
    exact tl21 _
   | true =>
    have hne : ∀ p ∈ pre, E.contains p = false := by
     intro p hp
     exact tl22 _
    unfold wpOp
    simp only [ho]
    rcases mix_pickB ok.sel ho hE post pre a w hap hne h with ⟨h1, h2⟩ | ⟨h1, h2⟩
    ·simp only [h1, if_true]
     left
     refine wp_noExit (Oper.wp_mono (fun a' w' hh => keep a' w' (fun j hj hEj => hh.1 ?_) hh.2) h2)
     unfold openB
     obtain ⟨hji, hjl⟩ := hun' j hj
     have hjlt : j < ops.size := by
      have : j ∈ unlB ops listed := by
       exact tl24 _
      exact (mem_unl.1 this).1
     refine List.any_eq_true.2 ⟨j, List.mem_range.2 hjlt, ?_⟩
     have := hnot j hji hjl
     rw [hEj]
     simp [this]
    ·exact tl25 _
def wpMix (P : Program) (ops : Array Oper) (C : World → Prop) (E : List Nat) (Q : Exit → Act → World → Prop) : Nat → List Oper → Act → World → Prop
  | _, [], a, w => Q .normal a w
  | k, o :: rest, a, w =>
    if Region.wanted o (yielded ops a.tmps) then
      if E.contains k then o.wp P a w (fun a' w' => (openB .any ops E k = true → C w') ∧ wpMix P ops C E Q (k + 1) rest a' w') noExit
      else o.quiet P a C (fun a' => wpMix P ops C E Q (k + 1) rest a' w)
    else wpMix P ops C E Q (k + 1) rest (a.put o.dst undef) w
theorem wpMixI_of_wpMix : ∀ (l : List Oper) (k : Nat) (a : Act) (w : World), (∀ j, j < l.length → ops[k + j]? = l[j]?) → wpMix P ops C E Q k l a w → wpMixI P .any ops C E (fun a w => Q .normal a w) (List.range' k l.length) a w
  | [], k, a, w, _, h => h
  | o :: l, k, a, w, hl, h => by
    have h0 : ops[k]? = some o := by simpa using hl 0 (by simp)
    have IH := fun a w => wpMixI_of_wpMix l (k + 1) a w (fun j hj => by have := hl (j + 1) (by simp; omega); simpa [Nat.add_assoc, Nat.add_comm 1 j] using this)
    rw [List.length_cons, List.range'_succ, mix_cons h0]
    rw [wpMix] at h
    split
    · rename_i hw
      simp only [hw, if_true] at h
      split
      · rename_i hE
        simp only [hE, if_true] at h
        exact Oper.wp_mono (fun a' w' hh => ⟨hh.1, IH _ _ hh.2⟩) h
      · rename_i hE
        simp only [hE] at h
        exact Oper.quiet_mono (fun a' hh => IH _ _ hh) h
    · rename_i hw
      simp only [hw] at h
      exact IH _ _ h
theorem tl26 (P : Prop) (h : P := by
 unfold unlB
 rw [List.filter_eq_self.2, List.range_eq_range']
 ·simp
 ·intro i hi
  have hi' : i < l.length := by simpa using hi
  simp [hi']) : P := h
theorem wp_region_mix {id : Nat} {a : Act} {w : World} {l : List Oper} (E : List Nat) (C : World → Prop) (hm : P.follows .mixedOrders = true) (hB : mixB .any l.toArray E = true) (hC : C w.drew)
    (h : wpMix P l.toArray C E Q 0 l a w.drew) : (Code.region id l.toArray true).wp P Q a w := by
 have ok := mixB_ok hB
 have hu : unlB l.toArray (Array.replicate l.toArray.size false) = List.range' 0 l.length := by
  exact tl26 _
 refine wp_region_any hm (mix_any (C := C) (E := E) ok _ _ a _ ?_ (by simp) ?_ ?_ ?_)
 ·rw [hu]; simp
 ·intro j oj _ hl
  rw [getD_replicate_false] at hl; cases hl
 ·intro _ _ _; exact hC
 ·rw [hu]
  exact wpMixI_of_wpMix l 0 a _ (fun j hj => by simp) h
theorem tl27 (P : Prop) (h : P := by
 refine List.all_eq_true.2 fun j hj => ?_
 have := List.all_eq_true.1 hE (j + 1) (List.mem_range.2 (by have := List.mem_range.1 hj; omega))
 rwa [show k + (j + 1) = k + 1 + j by omega] at this) : P := h
theorem wpMix_seg (n : Nat) {k : Nat} {l : List Oper} {a : Act} {w : World} (hE : ((List.range n).all fun j => !E.contains (k + j)) = true) (hn : n ≤ l.length)
    (h : wpQuiet P ops C (fun a' => wpMix P ops C E Q (k + n) (l.drop n) a' w) (l.take n) a) : wpMix P ops C E Q k l a w := by
 induction n generalizing k l a with
 | zero => exact h
 | succ n ih =>
  cases l with
  | nil => simp at hn
  | cons o l =>
   have h0 : E.contains k = false := by simpa using List.all_eq_true.1 hE 0 (List.mem_range.2 (by omega))
   have hE' : ((List.range n).all fun j => !E.contains (k + 1 + j)) = true := by
    exact tl27 _
   simp only [List.take_succ_cons, List.drop_succ_cons, wpQuiet] at h
   rw [wpMix, h0]
   have e : k + (n + 1) = k + 1 + n := by omega
   rw [e] at h
   split
   ·rename_i hw
    simp only [hw, if_true] at h
    exact Oper.quiet_mono (fun a' hh => ih hE' (by simpa using hn) hh) h
   ·rename_i hw
    simp only [hw] at h
    exact ih hE' (by simpa using hn) h
def MixK (b : Bool) (C : World → Prop) (R : Act → World → Prop) : Exit → Act → World → Prop
  | .normal, a, w => (b = true → C w) ∧ R a w
  | _, _, _ => False
theorem MixK.last {b : Bool} {a : Act} {w : World} (hb : b = false) (h : R a w) : MixK b C R .normal a w := by
 show (b = true → C w) ∧ R a w
 exact ⟨(fun e => by rw [hb] at e; cases e), h⟩
theorem MixK.on {b : Bool} {a : Act} {w : World} (hc : C w) (h : R a w) : MixK b C R .normal a w := by
 show (b = true → C w) ∧ R a w
 exact ⟨fun _ => hc, h⟩
theorem tl29 (P : Prop) (h : P := by
 unfold Oper.wp at *
 generalize (execOp a.eval o).run P w = r at *
 cases r with
 | ok n w' =>
  cases n <;> simp only [Oper.upon] at h ⊢ <;> try exact h
 | halt x w' => cases x <;> simp only [Oper.upon] at h ⊢ <;> exact h.elim) : P := h
theorem tl28 (P : Prop) (h : P := by
 rename_i hw
 simp only [hw, if_true] at h ⊢
 rcases h with h | ⟨_, h⟩
 ·exact tl29 _
 ·obtain ⟨a0, w0, h0⟩ := h
  exact h0.elim) : P := h
theorem wpMix_eff {k : Nat} {o : Oper} {rest : List Oper} {a : Act} {w : World} (hE : E.contains k = true)
    (h : wpList P ops (MixK (openB .any ops E k) C (fun a' w' => wpMix P ops C E Q (k + 1) rest a' w')) [o] a w) : wpMix P ops C E Q k (o :: rest) a w := by
 rw [wpMix, hE]
 unfold wpList at h
 split
 ·exact tl28 _
 ·rename_i hw
  simp only [hw] at h
  exact h.2
structure Memb (S : World → Prop) where
  at_ : World
  is : S at_
def InS (S : World → Prop) (w : World) : Prop := ∃ x : Memb S, w = x.at_
theorem InS.mk {S : World → Prop} {w : World} (h : S w) : InS S w := ⟨⟨w, h⟩, rfl⟩
attribute [go_sem] InS
theorem wpMix_nil {k : Nat} {a : Act} {w : World} (h : Q .normal a w) : wpMix P ops C E Q k [] a w := h
end Mix
theorem quiet_conv {P : Program} {S : World → Prop} {a a' : Act} {o : Oper} {K : Act → Prop} {s t : TypeId} {x : Operand} {v u : Value} {d : Nat}
    (hm : ∀ x : Memb S, (convert s t v).run P x.at_ = .ok u x.at_) (h : o.op = .convert s t x) (hd : o.dst = some d) (he : a.eval x = v) (ha : a.put (some d) u = a') (hk : K a') : o.quiet P a (InS S) K := by
 refine ⟨u, fun w hw => ?_, by rw [hd, ha]; exact hk⟩
 obtain ⟨y, rfl⟩ := hw
 have e : (execOp a.eval o).run P y.at_ = .ok (.value u) y.at_ := by
  unfold execOp
  rw [h]
  simp only [Sem.run_bind, Sem.run_pure]
  rw [he, hm y]; rfl
 unfold Oper.quietAt
 rw [e]
 exact ⟨rfl, rfl⟩
open Go.RowKit
structure Bs (w : World) (A : Option Addr) (n cap : Nat) (zs : List Int) : Prop where
  len : zs.length = n
  le : n ≤ cap
  max : cap ≤ 9223372036854775807
  nil : A = none → n = 0 ∧ cap = 0
  byte : ∀ z ∈ zs, 0 ≤ z ∧ z ≤ 255
  at_ : 0 < n → ∃ b off, A = some ⟨b, off, none⟩ ∧ b < w.heap.size ∧ ∀ i, i < n → w.cell? ⟨b, off + i, none⟩ = some (.int .u8 (zs.getD i 0))
theorem byte_getD {zs : List Int} (h : ∀ z ∈ zs, 0 ≤ z ∧ z ≤ 255) (i : Nat) : 0 ≤ zs.getD i 0 ∧ zs.getD i 0 ≤ 255 := by
 by_cases hi : i < zs.length
 ·exact h _ (getD_mem 0 hi)
 ·simp [List.getD, List.getElem?_eq_none (show zs.length ≤ i by omega)]
theorem Bs.keeps {w w' : World} {A : Option Addr} {n cap : Nat} {zs : List Int} {S : Nat → Prop} (h : Bs w A n cap zs) (hk : Keeps S w w') (hS : ∀ b off, 0 < n → b < w.heap.size → A = some ⟨b, off, none⟩ → ¬ S b) : Bs w' A n cap zs :=
  ⟨h.len, h.le, h.max, h.nil, h.byte, fun hn => by
    obtain ⟨b, off, e, hb, hc⟩ := h.at_ hn
    exact ⟨b, off, e, Nat.lt_of_lt_of_le hb hk.size, fun i hi => (hk.cell (p := ⟨b, off + i, none⟩) hb (hS b off hn hb e)).trans (hc i hi)⟩⟩
theorem Bs.drewN {w : World} {A : Option Addr} {n cap : Nat} {zs : List Int} (h : Bs w A n cap zs) (k : Nat) : Bs (w.drewN k) A n cap zs := ⟨h.len, h.le, h.max, h.nil, h.byte, h.at_⟩
theorem Bs.drew {w : World} {A : Option Addr} {n cap : Nat} {zs : List Int} (h : Bs w A n cap zs) : Bs w.drew A n cap zs := ⟨h.len, h.le, h.max, h.nil, h.byte, h.at_⟩
theorem Bs.alloc {w : World} {A : Option Addr} {n cap : Nat} {zs : List Int} (h : Bs w A n cap zs) (o : Obj) : Bs (w.alloc o) A n cap zs :=
  h.keeps (S := None) ((Keeps.refl _ _).alloc o) (fun _ _ _ _ _ h => h)
theorem Bs.later {w w' : World} {A : Option Addr} {n cap : Nat} {zs : List Int} (h : Bs w A n cap zs) (hk : Keeps (fun b => w.heap.size ≤ b) w w') : Bs w' A n cap zs :=
  h.keeps hk (fun _ _ _ hb _ hs => by omega)
theorem Bs.get {w : World} {A : Option Addr} {n cap : Nat} {zs : List Int} (h : Bs w A n cap zs) {i : Nat} (hi : i < n) :
    ∃ b off z, A = some ⟨b, off, none⟩ ∧ zs.getD i 0 = z ∧ 0 ≤ z ∧ z ≤ 255 ∧ w.cell? ⟨b, off + i, none⟩ = some (.int .u8 z) := by
 obtain ⟨b, off, e, _, hc⟩ := h.at_ (by omega)
 have hb := h.byte _ (getD_mem 0 (show i < zs.length by have := h.len; omega))
 exact ⟨b, off, _, e, rfl, hb.1, hb.2, hc i hi⟩
def Own (w : World) (B : Nat) (v : Value) (zs : List Int) : Prop := w.ownsRow B 5 1 v zs.length (zs.map (.int .u8)) ∧ ∀ z ∈ zs, 0 ≤ z ∧ z ≤ 255
theorem Own.nil (w : World) (B : Nat) : Own w B (.slice none 0 0) [] := ⟨World.ownsRow_nil _ _ _ _, by simp⟩
theorem Own.shape {w : World} {B : Nat} {v : Value} {zs : List Int} (h : Own w B v zs) : ∃ A cap, v = .slice A zs.length cap ∧ Bs w A zs.length cap zs ∧ (∀ b off, A = some ⟨b, off, none⟩ → B ≤ b ∧ b < w.heap.size ∧ off = 0) := by
 rcases h.1.2 with ⟨rfl, h0⟩ | ⟨g, cap, cur, rfl, hb, hg, hn, hm, hs, ht⟩
 ·refine ⟨none, 0, by rw [h0], ⟨rfl, by omega, by omega, fun _ => ⟨h0, rfl⟩, h.2, fun hn => by omega⟩, fun _ _ e => by cases e⟩
 ·have hlt := (Array.getElem?_eq_some_iff.1 hg).1
  refine ⟨some ⟨g, 0, none⟩, cap, rfl, ⟨rfl, hn, by unfold maxLen at hm; omega, (fun e => by cases e), h.2, fun _ => ⟨g, 0, rfl, hlt, fun i hi => ?_⟩⟩, fun b off e => ?_⟩
  ·have := h.1.cells (g := g) rfl i (.int .u8 (zs.getD i 0)) (map_getD 0 hi)
   have e2 : (⟨g, 0, none⟩ : Addr).add i = ⟨g, 0 + i, none⟩ := by unfold Addr.add; split <;> simp_all
   rwa [e2] at this
  ·cases e; exact ⟨hb, hlt, rfl⟩
theorem tl30 (P : Prop) (h : P := by
 refine .inr ⟨g, cap, cur, rfl, hb, ?_, rest⟩
 rw [hk.block g (Array.getElem?_eq_some_iff.1 hg).1 (hS g rfl)]; exact hg) : P := h
theorem Own.keeps {w w' : World} {B : Nat} {v : Value} {zs : List Int} {S : Nat → Prop} (h : Own w B v zs) (hk : Keeps S w w') (hS : ∀ b, v.ownBlock = some b → ¬ S b) : Own w' B v zs := by
 refine ⟨⟨h.1.1, ?_⟩, h.2⟩
 rcases h.1.2 with hn | ⟨g, cap, cur, rfl, hb, hg, rest⟩
 ·exact .inl hn
 ·exact tl30 _
theorem Own.drew {w : World} {B : Nat} {v : Value} {zs : List Int} (h : Own w B v zs) : Own w.drew B v zs := h
theorem Own.alloc {w : World} {B : Nat} {v : Value} {zs : List Int} (h : Own w B v zs) (o : Obj) : Own (w.alloc o) B v zs := ⟨h.1.alloc o, h.2⟩
theorem Own.lower {w : World} {B B' : Nat} {v : Value} {zs : List Int} (h : Own w B v zs) (hB : B' ≤ B) : Own w B' v zs := by
 refine ⟨⟨h.1.1, ?_⟩, h.2⟩
 rcases h.1.2 with hn | ⟨g, cap, cur, e, hb, rest⟩
 ·exact .inl hn
 ·exact .inr ⟨g, cap, cur, e, Nat.le_trans hB hb, rest⟩
theorem Own.at_ {w : World} {B : Nat} {A : Option Addr} {n cap : Nat} {zs : List Int} (h : Own w B (.slice A n cap) zs) {k : Nat} (hk : k < n) :
    ∃ g, A = some ⟨g, 0, none⟩ ∧ B ≤ g ∧ g < w.heap.size ∧ n = zs.length ∧ n ≤ cap ∧ cap ≤ 9223372036854775807 ∧ w.cell? ⟨g, k, none⟩ = some (.int .u8 (zs.getD k 0)) ∧ w.frozen? ⟨g, k, none⟩ = false := by
 rcases h.1.2 with ⟨e, h0⟩ | ⟨g, cap', cur, e, hb, hg, hn, hm, hs, ht⟩
 ·cases e; omega
 ·cases e
  have hlt := (Array.getElem?_eq_some_iff.1 hg).1
  have hc := h.1.cells (g := g) rfl k (.int .u8 (zs.getD k 0)) (map_getD 0 hk)
  have e2 : (⟨g, 0, none⟩ : Addr).add k = ⟨g, k, none⟩ := by unfold Addr.add; split <;> simp_all
  rw [e2] at hc
  exact ⟨g, rfl, hb, hlt, rfl, hn, by unfold maxLen at hm; omega, hc, by simp [World.frozen?, hg]⟩
theorem Own.notBelow {w : World} {B : Nat} {v : Value} {zs : List Int} (h : Own w B v zs) {i : Nat} (hi : i < B) : ¬ v.ownBlock = some i := by
 rcases h.1.2 with ⟨rfl, _⟩ | ⟨g, cap, cur, rfl, hb, _⟩
 ·intro e; cases e
 ·intro e
  have e2 : g = i := by simpa [Value.ownBlock] using e
  omega
theorem Own.store {w : World} {B : Nat} {zs : List Int} {g n cap : Nat} {v : Value} (h : Own w B v zs) (hv : v = .slice (some ⟨g, 0, none⟩) n cap) (j : Nat) (z : Int) (hz : 0 ≤ z ∧ z ≤ 255) (hj : j < zs.length) :
    Own (w.setCell ⟨g, j, none⟩ (.int .u8 z)) B v (zs.set j z) := by
 subst hv
 have hn : n = zs.length := by
  rcases h.1.2 with ⟨e, _⟩ | ⟨_, _, _, e, _⟩
  ·cases e
  ·cases e; rfl
 subst hn
 refine ⟨?_, fun y hy => ?_⟩
 ·have := (h.1.stored j (.int .u8 z)).1
  rw [List.length_set, List.map_set]
  exact this
 ·rcases List.mem_or_eq_of_mem_set hy with hy | rfl
  ·exact h.2 y hy
  ·exact hz
theorem Tryz.info5 : (Tryz.prog.info? 5).map (fun i => (i.zero, i.size, i.bytes)) = some (some (.int .u8 0), 1, 1) := by kernel_rfl
theorem tl31 (P : Prop) (h : P := by
 intro j u hu
 have hj : j < ns.length := by
  rcases Nat.lt_or_ge j ns.length with h | h
  ·exact h
  ·rw [List.getElem?_eq_none (by simpa using h)] at hu; cases hu
 obtain ⟨b, off, e, _, hc⟩ := hs.at_ (by have := hs.len; omega)
 cases e
 have e2 : (⟨b, off, none⟩ : Addr).add j = ⟨b, off + j, none⟩ := by unfold Addr.add; split <;> simp_all
 rw [e2, hc j (by have := hs.len; omega), ← hu, map_getD 0 hj]) : P := h
theorem run_append_bs {w : World} {B : Nat} {v : Value} {zs ns : List Int} {A : Option Addr} {m c : Nat} (hown : Own w B v zs) (hs : Bs w A m c ns) (hlen : zs.length + m ≤ 140737488355328) (hB : B ≤ w.heap.size) :
    ∃ v' w', (Builtin.append_ #[37, 37] 37 #[v, .slice A m c]).run Tryz.prog w = .ok v' w' ∧ Own w' B v' (zs ++ ns) ∧ Keeps (fun k => v.ownBlock = some k) w w' ∧ (v' = .slice none 0 0 → zs ++ ns = []) := by
 obtain ⟨i, hi, hz0, hz1, hz2⟩ := info_parts Tryz.info5
 cases A with
 | none =>
  obtain ⟨rfl, rfl⟩ := hs.nil rfl
  have e : ns = [] := List.eq_nil_of_length_eq_zero hs.len
  subst e
  refine ⟨v, w, run_append_owned_none (P := Tryz.prog) w B 37 37 5 i 1 Tryz.underlying37 hi v _ _ hown.1, by rw [List.append_nil]; exact hown, Keeps.refl _ _, fun hv => ?_⟩
  rcases hown.1.2 with ⟨_, h0⟩ | ⟨g, cap, cur, e, _⟩
  ·rw [List.append_nil]; exact List.eq_nil_of_length_eq_zero h0
  ·rw [hv] at e; cases e
 | some a =>
  have hcells : ∀ j u, (ns.map (Value.int .u8))[j]? = some u → w.cell? (a.add j) = some u := by
   exact tl31 _
  obtain ⟨v', w', hr, ho, hg, hnil⟩ := run_append_own (P := Tryz.prog) w B 37 37 5 i (.int .u8 0) 1 1 Tryz.underlying37 hi hz0 hz1 hz2 rfl (by decide) v zs.length (zs.map (.int .u8)) hown.1 a m c (ns.map (.int .u8)) (by simp [hs.len]) hcells
   (by intro u hu; obtain ⟨z, _, rfl⟩ := List.mem_map.1 hu; rfl) (by unfold maxLen; omega) (by omega) hB
  refine ⟨v', w', hr, ⟨?_, ?_⟩, (Keeps.refl _ w).grown hg (fun k hk _ => hk), fun hv => ?_⟩
  ·rw [List.length_append, hs.len, List.map_append]; exact ho
  ·intro z hz
   rcases List.mem_append.1 hz with hz | hz
   ·exact hown.2 z hz
   ·exact hs.byte z hz
  ·obtain ⟨e1, e2⟩ := hnil.1 hv
   have h0 : zs.length = 0 := by
    rcases hown.1.2 with ⟨_, h0⟩ | ⟨g, cap, cur, e, _⟩
    ·exact h0
    ·rw [e1] at e; cases e
   have : ns.length = 0 := by rw [hs.len]; exact e2
   rw [List.eq_nil_of_length_eq_zero h0, List.eq_nil_of_length_eq_zero this]; rfl
theorem wpList_append_bs {ops : Array Oper} {rest : List Oper} {o : Oper} {a : Act} {Q : Exit → Act → World → Prop} {s x : Operand} {w : World} {B : Nat} {v : Value} {zs ns : List Int} {A : Option Addr} {m c : Nat}
    (hown : Own w B v zs) (hs : Bs w A m c ns) (hlen : zs.length + m ≤ 140737488355328) (hB : B ≤ w.heap.size) (hg : o.guard = none) (hty : o.type = 37) (ho : o.op = .call { callee := .builtin .append, args := #[s, x], argTypes := #[37, 37] }) (h1 : a.eval s = v) (h2 : a.eval x = .slice A m c)
    (h : ∀ v' w', Own w' B v' (zs ++ ns) → Keeps (fun k => v.ownBlock = some k) w w' → wpList Tryz.prog ops Q rest (a.put o.dst v') w') : wpList Tryz.prog ops Q (o :: rest) a w := by
 obtain ⟨v', w', hr, h3, h4, _⟩ := run_append_bs hown hs hlen hB
 exact wpList_append_run hr hg hty ho h1 h2 (h v' w' h3 h4)
theorem Bs.oneAt (w : World) (b : Nat) (hb : b = w.heap.size) (z : Int) (hz : 0 ≤ z ∧ z ≤ 255) : Bs (w.alloc (.cells #[.int .u8 z] 5)) (some ⟨b, 0, none⟩) 1 1 [z] := by
 subst hb
 exact ⟨rfl, Nat.le_refl _, by decide, (fun e => by cases e), (fun y hy => by rw [List.mem_singleton.1 hy]; exact hz), fun _ => ⟨w.heap.size, 0, rfl, by simp, fun i hi => by
  obtain rfl : i = 0 := by omega
  simp⟩⟩
def strOf (zs : List Int) : ByteArray := zs.foldl (fun r n => r.push (UInt8.ofNat n.toNat)) ByteArray.empty
theorem run_str {w : World} {A : Option Addr} {n cap : Nat} {zs : List Int} (h : Bs w A n cap zs) : (convert 37 9 (.slice A n cap)).run Tryz.prog w = .ok (.string (strOf zs)) w := by
 rw [run_convert_bytes_string w 37 9 5 A n cap Tryz.underlying37 Tryz.underlying5 Tryz.underlying9]
 cases A with
 | none =>
  obtain ⟨rfl, rfl⟩ := h.nil rfl
  have e : zs = [] := List.eq_nil_of_length_eq_zero h.len
  subst e
  rfl
 | some a =>
  refine run_bytesToString w a n cap zs ?_
  have hl := h.len
  have := run_loadCells_list (P := Tryz.prog) (w := w) a (zs.map (.int .u8)) (fun j v hv => by
   have hj : j < zs.length := by
    rcases Nat.lt_or_ge j zs.length with h' | h'
    ·exact h'
    ·rw [List.getElem?_eq_none (by simpa using h')] at hv; cases hv
   obtain ⟨b, off, e, _, hc⟩ := h.at_ (by omega)
   cases e
   have e2 : (⟨b, off, none⟩ : Addr).add j = ⟨b, off + j, none⟩ := by unfold Addr.add; split <;> simp_all
   rw [e2, hc j (by omega), ← hv, map_getD 0 hj])
  rw [List.length_map, hl] at this
  exact this
def Cloned (w : World) (zs : List Int) (e : Ending) (w' : World) : Prop := ∃ v, e = .returned v ∧ Own w' w.heap.size v zs ∧ Keeps None w w'
set_option maxRecDepth 100000 in
set_option maxHeartbeats 400000 in
theorem clone_any (A : Option Addr) (n cap : Nat) (zs : List Int) (w : World) (h : Bs w A n cap zs) (hn : n ≤ 140737488355328) :
    Calls Tryz.prog 40 #[.slice A n cap] w (Cloned w zs) := by
 have hnil := fun w => Lib.run_eql_slice_nil (P := Tryz.prog) w 37 5 A n cap 0 0 Tryz.underlying37
 cases A with
 | none =>
  obtain ⟨rfl, rfl⟩ := h.nil rfl
  have e : zs = [] := List.eq_nil_of_length_eq_zero h.len
  subst e
  go_enter Tryz.func40, Tryz.ntmps40
  go_wp2
  go_ret
  exact ⟨_, rfl, Own.nil _ _, Keeps.refl _ _⟩
 | some a =>
  have hown : Own (w.alloc (.cells #[] 5)) w.heap.size (.slice (some ⟨w.heap.size, 0, none⟩) 0 0) [] := ⟨World.ownsRow_made w #[] 0 (Nat.le_refl _) (by unfold maxLen; omega) rfl, by simp⟩
  obtain ⟨v', w', hr, ho, hk, _⟩ := run_append_bs hown (h.alloc (.cells #[] 5)) (by simpa using hn) (by simp)
  rw [List.nil_append] at ho
  have k2 : Keeps None w w' := ((Keeps.refl None w).alloc _).trans hk (fun _ h => h) (fun i hi h => by simp [Value.ownBlock] at h; omega)
  go_enter Tryz.func40, Tryz.ntmps40
  go_wp2_with (at_builtin; refine wpList_append_run hr rfl rfl rfl rfl rfl ?_)
  go_ret
  exact ⟨_, rfl, ho, k2⟩
open Go.RowKit
theorem take_snoc (l : List Int) (k : Nat) (hk : k < l.length) : l.take k ++ [l[k]] = l.take (k + 1) := by
 rw [List.take_add_one, List.getElem?_eq_getElem hk]; rfl
theorem Bs.drop {w : World} {b off n cap k : Nat} {zs : List Int} (h : Bs w (some ⟨b, off, none⟩) n cap zs) (hk : k ≤ n) : Bs w (some ⟨b, off + k, none⟩) (n - k) (cap - k) (zs.drop k) := by
 have h1 := h.le
 have h2 := h.max
 refine ⟨by rw [List.length_drop, h.len], by omega, by omega, (fun e => by cases e), fun z hz => h.byte z (List.mem_of_mem_drop hz), fun hn => ?_⟩
 obtain ⟨b', off', e, hb, hc⟩ := h.at_ (by omega)
 cases e
 refine ⟨b, off + k, rfl, hb, fun i hi => ?_⟩
 rw [Nat.add_assoc, hc (k + i) (by omega)]
 simp [List.getD, List.getElem?_drop]
theorem Bs.dropIf {w : World} {b off n cap k : Nat} {zs : List Int} (h : Bs w (some ⟨b, off, none⟩) n cap zs) (hk : k ≤ n) : Bs w (if cap = k then some ⟨b, off, none⟩ else some ⟨b, off + k, none⟩) (n - k) (cap - k) (zs.drop k) := by
 have hd := h.drop hk
 split
 ·rename_i e
  have h1 := h.le
  exact ⟨hd.len, hd.le, hd.max, (fun e => by cases e), hd.byte, fun hn => by omega⟩
 ·exact hd
theorem Bs.empty (w : World) (a : Addr) (c : Nat) (hc : c ≤ 9223372036854775807) : Bs w (some a) 0 c [] := ⟨rfl, by omega, hc, (fun e => by cases e), (by simp), fun hn => by omega⟩
theorem Bs.take {w : World} {A : Option Addr} {n cap k : Nat} {zs : List Int} (h : Bs w A n cap zs) (hk : k ≤ n) : Bs w A k cap (zs.take k) :=
  ⟨by rw [List.length_take, h.len]; omega, Nat.le_trans hk h.le, h.max, fun e => ⟨by have := (h.nil e).1; omega, (h.nil e).2⟩, fun z hz => h.byte z (List.mem_of_mem_take hz), fun hp => by
    obtain ⟨b, off, e, hb, hc⟩ := h.at_ (by omega)
    exact ⟨b, off, e, hb, fun i hi => by rw [hc i (by omega)]; simp [List.getD, List.getElem?_take, hi]⟩⟩
open Go.RowKit
def half1 (x : Nat) : Nat := if x % 2 = 1 then (x / 2) ^^^ 3988292384 else x / 2
def halves : Nat → Nat → Nat
  | 0, x => x
  | k + 1, x => halves k (half1 x)
def crcStep (x c : Nat) : Nat := (x / 256) ^^^ halves 8 ((x % 256) ^^^ c)
def crcRun (x : Nat) (zs : List Nat) : Nat := zs.foldl crcStep x
def crcOf (zs : List Nat) : Nat := crcRun 4294967295 zs ^^^ 4294967295
theorem halves_succ (k x : Nat) : halves (k + 1) x = half1 (halves k x) := by
 induction k generalizing x with
 | zero => rfl
 | succ k ih => rw [halves, ih, halves]
theorem xor_mod2 (x y : Nat) : (x ^^^ y) % 2 = (x % 2 + y % 2) % 2 := by
 have h : (x ^^^ y) % 2 = (x % 2) ^^^ (y % 2) := by
  have := Nat.xor_mod_two_pow (a := x) (b := y) (n := 1)
  simpa using this
 rw [h]
 rcases Nat.mod_two_eq_zero_or_one x with h1 | h1 <;> rcases Nat.mod_two_eq_zero_or_one y with h2 | h2 <;> rw [h1, h2] <;> rfl
theorem xor_div2 (x y : Nat) : (x ^^^ y) / 2 = (x / 2) ^^^ (y / 2) := by
 have := Nat.xor_div_two_pow (a := x) (b := y) (n := 1)
 simpa using this
theorem xor4 (a b c : Nat) : (a ^^^ c) ^^^ (b ^^^ c) = a ^^^ b := by
 rw [Nat.xor_comm b c, Nat.xor_assoc, ← Nat.xor_assoc c c b, Nat.xor_self, Nat.zero_xor]
theorem xor4' (a b c d : Nat) : (a ^^^ b) ^^^ (c ^^^ d) = (a ^^^ c) ^^^ (b ^^^ d) := by
 rw [Nat.xor_assoc, ← Nat.xor_assoc b c d, Nat.xor_comm b c, Nat.xor_assoc c b d, ← Nat.xor_assoc]
theorem half1_xor (x y : Nat) : half1 (x ^^^ y) = half1 x ^^^ half1 y := by
 unfold half1
 rw [xor_mod2, xor_div2]
 rcases Nat.mod_two_eq_zero_or_one x with h1 | h1 <;> rcases Nat.mod_two_eq_zero_or_one y with h2 | h2 <;> rw [h1, h2] <;> simp
 ·exact Nat.xor_assoc ..
 ·rw [Nat.xor_assoc, Nat.xor_assoc, Nat.xor_comm (y / 2)]
 ·exact (xor4 _ _ _).symm
theorem halves_xor (k x y : Nat) : halves k (x ^^^ y) = halves k x ^^^ halves k y := by
 induction k generalizing x y with
 | zero => rfl
 | succ k ih => simp only [halves]; rw [half1_xor, ih]
theorem crcStep_xor (x y c d : Nat) : crcStep (x ^^^ y) (c ^^^ d) = crcStep x c ^^^ crcStep y d := by
 unfold crcStep
 have h1 : (x ^^^ y) / 256 = (x / 256) ^^^ (y / 256) := by
  have := Nat.xor_div_two_pow (a := x) (b := y) (n := 8); simpa using this
 have h2 : (x ^^^ y) % 256 = (x % 256) ^^^ (y % 256) := by
  have := Nat.xor_mod_two_pow (a := x) (b := y) (n := 8); simpa using this
 rw [h1, h2, xor4' (x % 256) (y % 256) c d, halves_xor, xor4']
theorem half1_lt {x : Nat} (h : x < 4294967296) : half1 x < 4294967296 := by
 unfold half1
 split
 ·exact Nat.xor_lt_two_pow (n := 32) (by omega) (by decide)
 ·omega
theorem halves_lt (k : Nat) {x : Nat} (h : x < 4294967296) : halves k x < 4294967296 := by
 induction k generalizing x with
 | zero => exact h
 | succ k ih => exact ih (half1_lt h)
theorem crcStep_lt {x c : Nat} (h : x < 4294967296) (hc : c < 256) : crcStep x c < 4294967296 :=
  Nat.xor_lt_two_pow (n := 32) (by omega) (halves_lt 8 (Nat.lt_of_lt_of_le (Nat.xor_lt_two_pow (n := 8) (Nat.mod_lt _ (by decide)) hc) (by decide)))
theorem crcRun_lt {x : Nat} (h : x < 4294967296) {zs : List Nat} (hz : ∀ z ∈ zs, z < 256) : crcRun x zs < 4294967296 := by
 induction zs generalizing x with
 | nil => exact h
 | cons c zs ih => exact ih (crcStep_lt h (hz c (by simp))) (fun z h => hz z (by simp [h]))
theorem crcOf_lt {zs : List Nat} (hz : ∀ z ∈ zs, z < 256) : crcOf zs < 4294967296 :=
  Nat.xor_lt_two_pow (n := 32) (crcRun_lt (by decide) hz) (by decide)
theorem crcRun_append (x : Nat) (xs ys : List Nat) : crcRun x (xs ++ ys) = crcRun (crcRun x xs) ys := by simp [crcRun]
set_option maxRecDepth 100000 in
theorem halves_low : ∀ i, i < 256 → halves 8 i < 16777216 → i = 0 := by decide +kernel
theorem xor_eq_zero' {a b : Nat} (h : a ^^^ b = 0) : a = b := by
 have := congrArg (· ^^^ b) h
 simp only [Nat.xor_assoc, Nat.xor_self, Nat.xor_zero, Nat.zero_xor] at this
 exact this
open Go.RowKit
section Mix2
variable {P : Program} {ops : Array Oper} {Q : Exit → Act → World → Prop} {md : Region.Mode} {E : List Nat} {R : Act → World → Prop}
def openJ (md : Region.Mode) (ops : Array Oper) (E : List Nat) (i j : Nat) : Bool :=
  decide (j < ops.size) && !E.contains j && !(descendB md ops j ops.size).contains i && E.all (fun e => decide (e ≤ i) || !(descendB md ops e ops.size).contains j)
def kinB (md : Region.Mode) (ops : Array Oper) (i j : Nat) : Bool := (descendB md ops i ops.size).contains j
def Aft (md : Region.Mode) (ops : Array Oper) (E : List Nat) (i : Nat) (C C' : Nat → World → Prop) (w : World) : Prop :=
  (∀ j, kinB md ops i j = false → C' j = C j) ∧ (∀ j, openJ md ops E i j = true → C' j w)
def wpMixI2 (P : Program) (md : Region.Mode) (ops : Array Oper) (E : List Nat) (R : Act → World → Prop) : List Nat → (Nat → World → Prop) → Act → World → Prop
  | [], _, a, w => R a w
  | i :: U, C, a, w =>
    match ops[i]? with
    | none => wpMixI2 P md ops E R U C a w
    | some o =>
      if E.contains i then
        if Region.wanted o (yielded ops a.tmps) then o.wp P a w (fun a' w' => ∃ C', Aft md ops E i C C' w' ∧ wpMixI2 P md ops E R U C' a' w') noExit
        else ∃ C', Aft md ops E i C C' w ∧ wpMixI2 P md ops E R U C' (a.put o.dst undef) w
      else
        if Region.wanted o (yielded ops a.tmps) then o.quiet P a (C i) (fun a' => wpMixI2 P md ops E R U C a' w)
        else wpMixI2 P md ops E R U C (a.put o.dst undef) w
theorem mix2_cons {i : Nat} {o : Oper} {U : List Nat} {C : Nat → World → Prop} {a : Act} {w : World} (ho : ops[i]? = some o) :
    wpMixI2 P md ops E R (i :: U) C a w = (if E.contains i then
        if Region.wanted o (yielded ops a.tmps) then o.wp P a w (fun a' w' => ∃ C', Aft md ops E i C C' w' ∧ wpMixI2 P md ops E R U C' a' w') noExit
        else ∃ C', Aft md ops E i C C' w ∧ wpMixI2 P md ops E R U C' (a.put o.dst undef) w
      else
        if Region.wanted o (yielded ops a.tmps) then o.quiet P a (C i) (fun a' => wpMixI2 P md ops E R U C a' w)
        else wpMixI2 P md ops E R U C (a.put o.dst undef) w) := by
  rw [wpMixI2]; simp only [ho]
theorem mix2_none {i : Nat} {U : List Nat} {C : Nat → World → Prop} {a : Act} {w : World} (ho : ops[i]? = none) : wpMixI2 P md ops E R (i :: U) C a w = wpMixI2 P md ops E R U C a w := by
 rw [wpMixI2]; simp only [ho]
theorem mix2_pickA (hsel : selFree ops) {i : Nat} {o : Oper} (ho : ops[i]? = some o) (hi : E.contains i = false) (hp : plainOp o = true) (post : List Nat) :
    ∀ (pre : List Nat) (C : Nat → World → Prop) (a : Act) (w : World), (∀ p ∈ pre, ∀ op, ops[p]? = some op → op.apart ops o = true) → (∀ p ∈ pre, E.contains p = true → openJ md ops E p i = true ∧ kinB md ops p i = false) →
      C i w → wpMixI2 P md ops E R (pre ++ i :: post) C a w → ∃ v, YieldsIn P ops (C i) o v a ∧ wpMixI2 P md ops E R (pre ++ post) C (a.put o.dst v) w
  | [], C, a, w, _, _, _, h => by
    rw [List.nil_append, mix2_cons ho, hi] at h
    simp only [Bool.false_eq_true, if_false] at h
    by_cases hw : Region.wanted o (yielded ops a.tmps) = true
    · simp only [hw, if_true] at h
      obtain ⟨v, h1, h2⟩ := h
      exact ⟨v, .inl ⟨hw, h1⟩, h2⟩
    · simp only [hw, Bool.false_eq_true, if_false] at h
      exact ⟨undef, .inr ⟨by simpa using hw, rfl⟩, h⟩
  | p :: pre, C, a, w, hap, hop, hC, h => by
    have hap' : ∀ q ∈ pre, ∀ op, ops[q]? = some op → op.apart ops o = true := fun q hq => hap q (List.mem_cons_of_mem _ hq)
    have hop' : ∀ q ∈ pre, E.contains q = true → openJ md ops E q i = true ∧ kinB md ops q i = false := fun q hq => hop q (List.mem_cons_of_mem _ hq)
    have IH := mix2_pickA hsel ho hi hp post pre
    cases hop0 : ops[p]? with
    | none =>
      rw [List.cons_append, mix2_none hop0] at h
      obtain ⟨v, h1, h2⟩ := IH C a w hap' hop' hC h
      exact ⟨v, h1, by rw [List.cons_append, mix2_none hop0]; exact h2⟩
    | some op =>
      obtain ⟨ap1, ap2, ap3⟩ := Oper.apart_spec (hap p List.mem_cons_self op hop0)
      have so : ∀ cs b, o.op ≠ .select cs b := fun cs b => hsel i o cs b ho
      have sp : ∀ cs b, op.op ≠ .select cs b := fun cs b => hsel p op cs b hop0
      rw [List.cons_append, mix2_cons hop0] at h
      have hwv : ∀ v, Region.wanted op (yielded ops (a.put o.dst v).tmps) = Region.wanted op (yielded ops a.tmps) := fun v => wanted_put op a o.dst v ap3
      have ap2' : ∀ t, o.dst = some t → op.dst ≠ some t := fun t ht hh => ap2 t hh ht
      cases hE : E.contains p with
      | true =>
        obtain ⟨hopen, hkin⟩ := hop p List.mem_cons_self hE
        simp only [hE, if_true] at h
        by_cases hw : Region.wanted op (yielded ops a.tmps) = true
        · simp only [hw, if_true] at h
          obtain ⟨a1, w1, hl1, C1, hc1, hr1⟩ := wp_some h
          obtain ⟨v, hy, _⟩ := IH C1 a1 w1 hap' hop' (hc1.2 i hopen) hr1
          rw [hc1.1 i hkin] at hy
          have hyv := (YieldsIn.of_leaves (P := P) (C := C i) hl1 so ap1).1 hy
          refine ⟨v, hyv, ?_⟩
          rw [List.cons_append, mix2_cons hop0]
          simp only [hwv, hw, if_true, hE]
          refine wp_shift (ops := ops) sp ap3 ap2' (fun a' w' hl hk => ?_) h noExit_any
          obtain ⟨C', hc', hk'⟩ := hk
          obtain ⟨u, hyu, hru⟩ := IH C' a' w' hap' hop' (hc'.2 i hopen) hk'
          rw [hc'.1 i hkin] at hyu
          have e : u = v := YieldsIn.one hp hC ((YieldsIn.of_leaves (P := P) (C := C i) hl so ap1).1 hyu) hyv
          rw [← e]; exact ⟨C', hc', hru⟩
        · simp only [hw, Bool.false_eq_true, if_false] at h
          obtain ⟨C', hc', hk'⟩ := h
          obtain ⟨v, hy, hrv⟩ := IH C' _ w hap' hop' (hc'.2 i hopen) hk'
          rw [hc'.1 i hkin] at hy
          have hyv := (YieldsIn.of_leaves (P := P) (C := C i) ⟨undef, a.defers, rfl⟩ so ap1).1 hy
          refine ⟨v, hyv, ?_⟩
          rw [List.cons_append, mix2_cons hop0]
          simp only [hwv, hw, if_true, hE, Bool.false_eq_true, if_false]
          refine ⟨C', hc', ?_⟩
          rw [Act.put_comm a v undef (fun t ht => ap2' t ht)]; exact hrv
      | false =>
        simp only [hE, Bool.false_eq_true, if_false] at h
        by_cases hw : Region.wanted op (yielded ops a.tmps) = true
        · simp only [hw, if_true] at h
          obtain ⟨u, hu, hr⟩ := h
          obtain ⟨v, hy, hrv⟩ := IH C _ w hap' hop' hC hr
          have hyv := (YieldsIn.of_leaves (P := P) (C := C i) ⟨u, a.defers, rfl⟩ so ap1).1 hy
          refine ⟨v, hyv, ?_⟩
          rw [List.cons_append, mix2_cons hop0]
          simp only [hwv, hw, if_true, hE, Bool.false_eq_true, if_false]
          refine ⟨u, fun w' hw' => ?_, ?_⟩
          · have := hu w' hw'
            unfold Oper.quietAt at *
            rwa [execOp_put op sp a o.dst v ap3]
          · rw [Act.put_comm a v u (fun t ht => ap2' t ht)]; exact hrv
        · simp only [hw, Bool.false_eq_true, if_false] at h
          obtain ⟨v, hy, hrv⟩ := IH C _ w hap' hop' hC h
          have hyv := (YieldsIn.of_leaves (P := P) (C := C i) ⟨undef, a.defers, rfl⟩ so ap1).1 hy
          refine ⟨v, hyv, ?_⟩
          rw [List.cons_append, mix2_cons hop0]
          simp only [hwv, hw, hE, Bool.false_eq_true, if_false]
          rw [Act.put_comm a v undef (fun t ht => ap2' t ht)]; exact hrv
theorem mix2_pickB (hsel : selFree ops) {i : Nat} {o : Oper} (ho : ops[i]? = some o) (hi : E.contains i = true) (post : List Nat) :
    ∀ (pre : List Nat) (C : Nat → World → Prop) (a : Act) (w : World), (∀ p ∈ pre, ∀ op, ops[p]? = some op → op.apart ops o = true) → (∀ p ∈ pre, E.contains p = false ∧ kinB md ops i p = false) →
      wpMixI2 P md ops E R (pre ++ i :: post) C a w →
      (Region.wanted o (yielded ops a.tmps) = true ∧ o.wp P a w (fun a' w' => ∃ C', Aft md ops E i C C' w' ∧ wpMixI2 P md ops E R (pre ++ post) C' a' w') noExit) ∨
      (Region.wanted o (yielded ops a.tmps) = false ∧ ∃ C', Aft md ops E i C C' w ∧ wpMixI2 P md ops E R (pre ++ post) C' (a.put o.dst undef) w)
  | [], C, a, w, _, _, h => by
    rw [List.nil_append, mix2_cons ho, hi] at h
    simp only [if_true] at h
    by_cases hw : Region.wanted o (yielded ops a.tmps) = true
    · simp only [hw, if_true] at h
      exact .inl ⟨hw, h⟩
    · simp only [hw, Bool.false_eq_true, if_false] at h
      exact .inr ⟨by simpa using hw, h⟩
  | p :: pre, C, a, w, hap, hne, h => by
    have hap' : ∀ q ∈ pre, ∀ op, ops[q]? = some op → op.apart ops o = true := fun q hq => hap q (List.mem_cons_of_mem _ hq)
    have hne' : ∀ q ∈ pre, E.contains q = false ∧ kinB md ops i q = false := fun q hq => hne q (List.mem_cons_of_mem _ hq)
    have IH := mix2_pickB hsel ho hi post pre
    cases hop0 : ops[p]? with
    | none =>
      rw [List.cons_append, mix2_none hop0] at h
      simpa only [List.cons_append, mix2_none hop0] using IH C a w hap' hne' h
    | some op =>
      obtain ⟨ap1, ap2, ap3⟩ := Oper.apart_spec (hap p List.mem_cons_self op hop0)
      have so : ∀ cs b, o.op ≠ .select cs b := fun cs b => hsel i o cs b ho
      have sp : ∀ cs b, op.op ≠ .select cs b := fun cs b => hsel p op cs b hop0
      obtain ⟨hE, hkin⟩ := hne p List.mem_cons_self
      have ap2' : ∀ t, o.dst = some t → op.dst ≠ some t := fun t ht hh => ap2 t hh ht
      rw [List.cons_append, mix2_cons hop0] at h
      have go : ∀ u, wpMixI2 P md ops E R (pre ++ i :: post) C (a.put op.dst u) w →
          (∀ C' a' w', C' p = C p → (execOp a'.eval op = execOp a.eval op ∧ Region.wanted op (yielded ops a'.tmps) = Region.wanted op (yielded ops a.tmps)) → wpMixI2 P md ops E R (pre ++ post) C' (a'.put op.dst u) w' → wpMixI2 P md ops E R (p :: pre ++ post) C' a' w') →
          (Region.wanted o (yielded ops a.tmps) = true ∧ o.wp P a w (fun a' w' => ∃ C', Aft md ops E i C C' w' ∧ wpMixI2 P md ops E R (p :: pre ++ post) C' a' w') noExit) ∨
          (Region.wanted o (yielded ops a.tmps) = false ∧ ∃ C', Aft md ops E i C C' w ∧ wpMixI2 P md ops E R (p :: pre ++ post) C' (a.put o.dst undef) w) := by
        intro u hu hback
        have hwo : Region.wanted o (yielded ops (a.put op.dst u).tmps) = Region.wanted o (yielded ops a.tmps) := wanted_put o a op.dst u ap1
        rcases IH C _ w hap' hne' hu with ⟨h1, h2⟩ | ⟨h1, h2⟩
        · refine .inl ⟨by rw [← hwo]; exact h1, ?_⟩
          unfold Oper.wp at h2 ⊢
          rw [execOp_put o so a op.dst u ap1] at h2
          have hc : ∀ x, (a.put op.dst u).put o.dst x = (a.put o.dst x).put op.dst u := fun x => Act.put_comm a u x (fun t ht => ap2 t ht)
          have same : ∀ x ds, execOp (({ a with defers := ds } : Act).put o.dst x).eval op = execOp a.eval op ∧ Region.wanted op (yielded ops (({ a with defers := ds } : Act).put o.dst x).tmps) = Region.wanted op (yielded ops a.tmps) :=
            fun x ds => Leaves.eval (o := o) ⟨x, ds, rfl⟩ sp ap3
          have fin : ∀ x ds w1, (∃ C', Aft md ops E i C C' w1 ∧ wpMixI2 P md ops E R (pre ++ post) C' ((({ a with defers := ds } : Act).put o.dst x).put op.dst u) w1) →
              ∃ C', Aft md ops E i C C' w1 ∧ wpMixI2 P md ops E R (p :: pre ++ post) C' (({ a with defers := ds } : Act).put o.dst x) w1 := fun x ds w1 ⟨C', hc', hk'⟩ =>
            ⟨C', hc', hback C' _ _ (hc'.1 p hkin) (same x ds) hk'⟩
          generalize (execOp a.eval o).run P w = r at *
          cases r with
          | ok n w' =>
            cases n <;> simp only [Oper.upon] at h2 ⊢ <;> try exact h2
            case value x => rw [hc] at h2; exact fin x a.defers _ h2
            case skip => rw [hc] at h2; exact fin undef a.defers _ h2
            case defer x =>
              have e1 : ({ a.put op.dst u with defers := x :: (a.put op.dst u).defers } : Act).put o.dst undef = (({ a with defers := x :: a.defers } : Act).put o.dst undef).put op.dst u := by
                rw [Act.put_defers]
                exact Act.put_comm _ u undef (fun t ht => ap2 t ht)
              rw [e1] at h2
              exact fin undef (x :: a.defers) _ h2
            case enter f args =>
              exact Calls.mono h2 (fun e w'' he => by
                cases e with
                | returned x =>
                  have he' : ∃ C', Aft md ops E i C C' w'' ∧ wpMixI2 P md ops E R (pre ++ post) C' ((a.put op.dst u).put o.dst x) w'' := he
                  rw [hc] at he'
                  exact fin x a.defers _ he'
                | panicked c => exact he
                | outgrown => exact he)
            case row row args => exact Rows.mono h2 (fun x w'' he => by rw [hc] at he; exact fin x a.defers _ he)
          | halt x w' => cases x <;> simp only [Oper.upon] at h2 ⊢ <;> exact h2
        · obtain ⟨C', hc', hk'⟩ := h2
          refine .inr ⟨by rw [← hwo]; exact h1, C', hc', hback C' _ _ (hc'.1 p hkin) (Leaves.eval (o := o) ⟨undef, a.defers, rfl⟩ sp ap3) ?_⟩
          rw [← Act.put_comm a u undef (fun t ht => ap2 t ht)]; exact hk'
      simp only [hE, Bool.false_eq_true, if_false] at h
      by_cases hw : Region.wanted op (yielded ops a.tmps) = true
      · simp only [hw, if_true] at h
        obtain ⟨u, hu, hr⟩ := h
        refine go u hr fun C' a' w' hCp hs hr' => ?_
        rw [List.cons_append, mix2_cons hop0]
        simp only [hs.2, hw, if_true, hE, Bool.false_eq_true, if_false]
        rw [hCp]
        refine ⟨u, fun w'' hw'' => ?_, hr'⟩
        have := hu w'' hw''
        unfold Oper.quietAt at *
        rwa [hs.1]
      · simp only [hw, Bool.false_eq_true, if_false] at h
        refine go undef h fun C' a' w' _ hs hr' => ?_
        rw [List.cons_append, mix2_cons hop0]
        simp only [hs.2, hw, hE, Bool.false_eq_true, if_false]
        exact hr'
theorem mix2_any (ok : MixOk md ops E) : ∀ (n : Nat) (listed : Array Bool) (C : Nat → World → Prop) (a : Act) (w : World), (unlB ops listed).length ≤ n → listed.size = ops.size →
    (∀ j oj, ops[j]? = some oj → listed.getD j false = true → ∀ e ∈ oj.after, Region.binds md e = true → listed.getD e.on false = true) →
    (∀ j ∈ unlB ops listed, E.contains j = false → (∀ e, E.contains e = true → kinB md ops e j = true → listed.getD e false = true) → C j w) → wpMixI2 P md ops E (fun a w => Q .normal a w) (unlB ops listed) C a w → wpAny P md ops Q n listed a w := by
 intro n
 induction n with
 | zero =>
  intro listed C a w hlen hsz hcl hC h
  exact tl4 _
 | succ n ih =>
  intro listed C a w hlen hsz hcl hC h
  refine ⟨fun hr => ?_, fun i hi => ?_⟩
  ·exact tl7 _
  ·obtain ⟨hun, o, ho, hall⟩ := mem_ready.1 hi
   have hlt : i < ops.size := (Array.getElem?_eq_some_iff.1 ho).1
   have hmem : i ∈ unlB ops listed := mem_unl.2 ⟨hlt, hun⟩
   obtain ⟨pre, post, hsplit⟩ := List.append_of_mem hmem
   have hpw : (unlB ops listed).Pairwise (· < ·) := List.Pairwise.filter _ List.pairwise_lt_range
   rw [hsplit] at hpw
   have hpre : ∀ p ∈ pre, p < i := fun p hp => (List.pairwise_append.1 hpw).2.2 p hp i List.mem_cons_self
   have hpost : ∀ p ∈ post, i < p := fun p hp => (List.pairwise_cons.1 (List.pairwise_append.1 hpw).2.1).1 p hp
   have hunp : ∀ p ∈ pre, listed.getD p true = false := fun p hp => (mem_unl.1 (by rw [hsplit]; exact List.mem_append_left _ hp)).2
   have hap : ∀ p ∈ pre, ∀ op, ops[p]? = some op → op.apart ops o = true := by
    exact tl11 _
   have hsz' : (listed.setIfInBounds i true).size = ops.size := by simp [hsz]
   have hcl' : ∀ j oj, ops[j]? = some oj → (listed.setIfInBounds i true).getD j false = true → ∀ e ∈ oj.after, Region.binds md e = true → (listed.setIfInBounds i true).getD e.on false = true := by
    exact tl12 _
   have hu' : unlB ops (listed.setIfInBounds i true) = pre ++ post := by
    exact tl13 _
   have hlen' : (unlB ops (listed.setIfInBounds i true)).length ≤ n := by
    rw [hu']; rw [hsplit] at hlen; simp at hlen ⊢; omega
   have hun' : ∀ j ∈ pre ++ post, j ≠ i ∧ listed.getD j true = false := by
    exact tl18 _
   have hnot : ∀ j, j ≠ i → listed.getD j true = false → i ∉ descendB md ops j ops.size := by
    exact tl20 _
   have hltj : ∀ j ∈ pre ++ post, j < ops.size := fun j hj => ((mem_unl (ops := ops) (listed := listed)).1 (by
    rw [hsplit]
    rcases List.mem_append.1 hj with hj | hj
    ·exact List.mem_append_left _ hj
    ·exact List.mem_append_right _ (List.mem_cons_of_mem _ hj))).1
   have hge : ∀ e j, kinB md ops e j = true → e ≤ j := fun e j hk => descend_ge ok.topo e _ j (by unfold kinB at hk; simpa using hk)
   have hchain : ∀ p e, p < e → e < ops.size → E.contains p = true → E.contains e = true → listed.getD e false = true → listed.getD p false = true := by
    intro p e hpe he hEp hEe hl
    exact (descend_listed hcl p ops.size e (ok.chain e ops[e] p (ops[p]'(by omega)) (Array.getElem?_eq_getElem he) (Array.getElem?_eq_getElem (by omega)) hpe hEp hEe)).1 hl
   rw [hsplit] at h
   cases hE : E.contains i with
   | false =>
    have hel : ∀ e, E.contains e = true → kinB md ops e i = true → listed.getD e false = true := by
     intro e hEe hk
     have hei : i ≠ e := fun hh => by rw [hh, hEe] at hE; cases hE
     have hm : i ∈ descendB md ops e ops.size := by unfold kinB at hk; simpa using hk
     exact (descend_listed hcl e ops.size i hm).2 hei (fun oj hoj e' he' hb' => by
      have : oj = o := Option.some.inj (hoj.symm.trans ho)
      subst this
      exact hall e' he' hb')
    have hCw := hC i hmem hE hel
    have hopen : ∀ p ∈ pre, E.contains p = true → openJ md ops E p i = true ∧ kinB md ops p i = false := by
     intro p hp hEp
     have hpl := hunp p hp
     have hk : kinB md ops p i = false := by
      cases hk : kinB md ops p i with
      | false => rfl
      | true => have := hel p hEp hk; rw [getD_both hpl] at this; cases this
     refine ⟨?_, hk⟩
     unfold openJ
     have h1 : p ∉ descendB md ops i ops.size := fun hd => by have := descend_ge ok.topo i _ p hd; have := hpre p hp; omega
     simp only [hlt, decide_true, hE, Bool.not_false, Bool.true_and, Bool.and_eq_true, List.all_eq_true, Bool.or_eq_true, decide_eq_true_eq]
     refine ⟨by simpa using h1, fun e he => ?_⟩
     by_cases hep : e ≤ p
     ·exact .inl hep
     ·right
      cases hk2 : kinB md ops e i with
      | false => show (!kinB md ops e i) = true; rw [hk2]; rfl
      | true =>
       have hEe : E.contains e = true := by simpa using he
       have hle := hel e hEe hk2
       have hei := hge e i hk2
       have := hchain p e (by omega) (by omega) hEp hEe hle
       rw [getD_both hpl] at this; cases this
    obtain ⟨v, hy, hr⟩ := mix2_pickA ok.sel ho hE (ok.plain i o ho hE) post pre C a w hap hopen hCw h
    refine wpOp_of_yields ho (ok.plain i o ho hE) hCw hy (ih _ C _ _ hlen' hsz' hcl' ?_ (by rw [hu']; exact hr))
    rw [hu']
    intro j hj hEj helj
    refine hC j (by
     rw [hsplit]
     rcases List.mem_append.1 hj with hj | hj
     ·exact List.mem_append_left _ hj
     ·exact List.mem_append_right _ (List.mem_cons_of_mem _ hj)) hEj (fun e hEe hk => ?_)
    have := helj e hEe hk
    rwa [getD_set_ne false (fun hh => by rw [← hh, hE] at hEe; cases hEe)] at this
   | true =>
    have hne : ∀ p ∈ pre, E.contains p = false ∧ kinB md ops i p = false := by
     intro p hp
     refine ⟨?_, ?_⟩
     ·exact tl22 _
     ·cases hk : kinB md ops i p with
      | false => rfl
      | true => have := hge i p hk; have := hpre p hp; omega
    have keep : ∀ a' w', (∃ C', Aft md ops E i C C' w' ∧ wpMixI2 P md ops E (fun a w => Q .normal a w) (pre ++ post) C' a' w') → wpAny P md ops Q n (listed.setIfInBounds i true) a' w' := by
     rintro a' w' ⟨C', hc', hk'⟩
     refine ih _ C' a' w' hlen' hsz' hcl' ?_ (by rw [hu']; exact hk')
     rw [hu']
     intro j hj hEj helj
     refine hc'.2 j ?_
     obtain ⟨hji, hjl⟩ := hun' j hj
     have hjlt := hltj j hj
     have h1 := hnot j hji hjl
     unfold openJ
     simp only [hjlt, decide_true, hEj, Bool.not_false, Bool.true_and, Bool.and_eq_true, List.all_eq_true, Bool.or_eq_true, decide_eq_true_eq]
     refine ⟨by simpa using h1, fun e he => ?_⟩
     by_cases hei : e ≤ i
     ·exact .inl hei
     ·right
      cases hk2 : kinB md ops e j with
      | false => show (!kinB md ops e j) = true; rw [hk2]; rfl
      | true =>
       have hEe : E.contains e = true := by simpa using he
       have hle := helj e hEe hk2
       rw [getD_set_ne false (by omega)] at hle
       have hej := hge e j hk2
       have := hchain i e (by omega) (by omega) hE hEe hle
       rw [getD_both hun] at this; cases this
    unfold wpOp
    simp only [ho]
    rcases mix2_pickB ok.sel ho hE post pre C a w hap hne h with ⟨h1, h2⟩ | ⟨h1, h2⟩
    ·simp only [h1, if_true]
     left
     exact wp_noExit (Oper.wp_mono (fun a' w' hh => keep a' w' hh) h2)
    ·simp only [h1, Bool.false_eq_true, if_false]
     exact keep _ _ h2
def wpMix2 (P : Program) (ops : Array Oper) (E : List Nat) (Q : Exit → Act → World → Prop) : Nat → List Oper → (Nat → World → Prop) → Act → World → Prop
  | _, [], _, a, w => Q .normal a w
  | k, o :: rest, C, a, w =>
    if E.contains k then
      if Region.wanted o (yielded ops a.tmps) then o.wp P a w (fun a' w' => ∃ C', Aft .any ops E k C C' w' ∧ wpMix2 P ops E Q (k + 1) rest C' a' w') noExit
      else ∃ C', Aft .any ops E k C C' w ∧ wpMix2 P ops E Q (k + 1) rest C' (a.put o.dst undef) w
    else
      if Region.wanted o (yielded ops a.tmps) then o.quiet P a (C k) (fun a' => wpMix2 P ops E Q (k + 1) rest C a' w)
      else wpMix2 P ops E Q (k + 1) rest C (a.put o.dst undef) w
theorem wpMixI2_of_wpMix2 : ∀ (l : List Oper) (k : Nat) (C : Nat → World → Prop) (a : Act) (w : World), (∀ j, j < l.length → ops[k + j]? = l[j]?) → wpMix2 P ops E Q k l C a w → wpMixI2 P .any ops E (fun a w => Q .normal a w) (List.range' k l.length) C a w
  | [], k, C, a, w, _, h => h
  | o :: l, k, C, a, w, hl, h => by
    have h0 : ops[k]? = some o := by simpa using hl 0 (by simp)
    have IH := fun C a w => wpMixI2_of_wpMix2 l (k + 1) C a w (fun j hj => by have := hl (j + 1) (by simp; omega); simpa [Nat.add_assoc, Nat.add_comm 1 j] using this)
    rw [List.length_cons, List.range'_succ, mix2_cons h0]
    rw [wpMix2] at h
    split
    · rename_i hE
      simp only [hE, if_true] at h
      split
      · rename_i hw
        simp only [hw, if_true] at h
        exact Oper.wp_mono (fun a' w' ⟨C', h1, h2⟩ => ⟨C', h1, IH _ _ _ h2⟩) h
      · rename_i hw
        simp only [hw] at h
        obtain ⟨C', h1, h2⟩ := h
        exact ⟨C', h1, IH _ _ _ h2⟩
    · rename_i hE
      simp only [hE] at h
      split
      · rename_i hw
        simp only [hw, if_true] at h
        exact Oper.quiet_mono (fun a' hh => IH _ _ _ hh) h
      · rename_i hw
        simp only [hw] at h
        exact IH _ _ _ h
def cl (S : World → Prop) : List (Nat × (World → Prop)) → Nat → World → Prop
  | [], _ => S
  | (k, D) :: L, j => if j = k then D else cl S L j
theorem wp_region_mix2 {id : Nat} {a : Act} {w : World} {l : List Oper} (E : List Nat) (S : World → Prop) (hm : P.follows .mixedOrders = true) (hB : mixB .any l.toArray E = true) (hC : S w.drew)
    (h : wpMix2 P l.toArray E Q 0 l (cl S []) a w.drew) : (Code.region id l.toArray true).wp P Q a w := by
 have ok := mixB_ok hB
 have hu : unlB l.toArray (Array.replicate l.toArray.size false) = List.range' 0 l.length := by
  exact tl26 _
 refine wp_region_any hm (mix2_any (E := E) ok _ _ (cl S []) a _ ?_ (by simp) ?_ ?_ ?_)
 ·rw [hu]; simp
 ·intro j oj _ hl
  rw [getD_replicate_false] at hl; cases hl
 ·intro _ _ _ _; exact hC
 ·rw [hu]
  exact wpMixI2_of_wpMix2 l 0 _ a _ (fun j hj => by simp) h
theorem wpMix2_seg (n : Nat) (D : World → Prop) {k : Nat} {l : List Oper} {C : Nat → World → Prop} {a : Act} {w : World} (hE : ((List.range n).all fun j => !E.contains (k + j)) = true) (hn : n ≤ l.length) (hD : ∀ j, j < n → C (k + j) = D)
    (h : wpQuiet P ops D (fun a' => wpMix2 P ops E Q (k + n) (l.drop n) C a' w) (l.take n) a) : wpMix2 P ops E Q k l C a w := by
 induction n generalizing k l a with
 | zero => exact h
 | succ n ih =>
  cases l with
  | nil => simp at hn
  | cons o l =>
   have h0 : E.contains k = false := by simpa using List.all_eq_true.1 hE 0 (List.mem_range.2 (by omega))
   have hE' : ((List.range n).all fun j => !E.contains (k + 1 + j)) = true := by
    exact tl27 _
   have hD' : ∀ j, j < n → C (k + 1 + j) = D := fun j hj => by
    have := hD (j + 1) (by omega)
    rwa [show k + (j + 1) = k + 1 + j by omega] at this
   have hCk : C k = D := hD 0 (by omega)
   simp only [List.take_succ_cons, List.drop_succ_cons, wpQuiet] at h
   rw [wpMix2, h0, hCk]
   have e : k + (n + 1) = k + 1 + n := by omega
   rw [e] at h
   simp only [Bool.false_eq_true, if_false]
   split
   ·rename_i hw
    simp only [hw, if_true] at h
    exact Oper.quiet_mono (fun a' hh => ih hE' (by simpa using hn) hD' hh) h
   ·rename_i hw
    simp only [hw] at h
    exact ih hE' (by simpa using hn) hD' h
theorem cl_base {S : World → Prop} {L : List (Nat × (World → Prop))} {k n : Nat} (ks : List Nat) (hk : L.map Prod.fst = ks) (h : (ks.all fun x => decide (x < k) || decide (k + n ≤ x)) = true) : ∀ j, j < n → cl S L (k + j) = S := by
 subst hk
 intro j hj
 induction L with
 | nil => rfl
 | cons p L ih =>
  obtain ⟨x, D⟩ := p
  simp only [List.map_cons, List.all_cons, Bool.and_eq_true, Bool.or_eq_true, decide_eq_true_eq] at h
  show (if k + j = x then D else cl S L (k + j)) = S
  rw [if_neg (by omega)]
  exact ih h.2
theorem cl_one {S D : World → Prop} {L : List (Nat × (World → Prop))} {k : Nat} (h : cl S L k = D) : ∀ j, j < 1 → cl S L (k + j) = D := by
 intro j hj
 obtain rfl : j = 0 := by omega
 exact h
def MixK2 (ops : Array Oper) (E : List Nat) (k : Nat) (C : Nat → World → Prop) (R : (Nat → World → Prop) → Act → World → Prop) : Exit → Act → World → Prop
  | .normal, a, w => ∃ C', Aft .any ops E k C C' w ∧ R C' a w
  | _, _, _ => False
theorem MixK2.late {k x : Nat} {S D : World → Prop} {L : List (Nat × (World → Prop))} {R : (Nat → World → Prop) → Act → World → Prop} {a : Act} {w : World} (hx : kinB .any ops k x = true)
    (hc : ∀ j, openJ .any ops E k j = true → cl S ((x, D) :: L) j w) (h : R (cl S ((x, D) :: L)) a w) : MixK2 ops E k (cl S L) R .normal a w :=
  ⟨_, ⟨fun j hj => by
    show (if j = x then D else cl S L j) = cl S L j
    rw [if_neg (fun e => by rw [e, hx] at hj; cases hj)], hc⟩, h⟩
theorem cls_base {p : Nat → Bool} {S : World → Prop} {w : World} (h : S w) : ∀ j, p j = true → cl S [] j w := fun _ _ => h
theorem cls_cons {p : Nat → Bool} {x : Nat} {S D : World → Prop} {L : List (Nat × (World → Prop))} {w : World} (h : D w) (t : ∀ j, (p j && !(j == x)) = true → cl S L j w) : ∀ j, p j = true → cl S ((x, D) :: L) j w := fun j hj => by
  show (if j = x then D else cl S L j) w
  split
  · exact h
  · rename_i hne
    exact t j (by simp [hj, hne])
theorem wpMix2_eff {k : Nat} {o : Oper} {rest : List Oper} {C : Nat → World → Prop} {a : Act} {w : World} (hE : E.contains k = true)
    (h : wpList P ops (MixK2 ops E k C (fun C' a' w' => wpMix2 P ops E Q (k + 1) rest C' a' w')) [o] a w) : wpMix2 P ops E Q k (o :: rest) C a w := by
 rw [wpMix2, hE]
 unfold wpList at h
 simp only [if_true]
 split
 ·exact tl28 _
 ·rename_i hw
  simp only [hw] at h
  exact h
theorem wpMix2_nil {k : Nat} {C : Nat → World → Prop} {a : Act} {w : World} (h : Q .normal a w) : wpMix2 P ops E Q k [] C a w := h
end Mix2
open Go.RowKit Go.ChangeShapes Go.WideShapes Go.Deep
theorem add_none (b off i : Nat) : (⟨b, off, none⟩ : Addr).add i = ⟨b, off + i, none⟩ := by unfold Addr.add; split <;> simp_all
section
variable {H : Type} {enc : TypeId × Value → H} {P : Program} {w : World} {base : Nat} {spare : Nat → Bool} {held : Bool}
theorem open_bs {A : Option Addr} {n cap : Nat} {d : DataW H} {p : List MemPlace} (h : DataW.Trod enc Tryz.prog w base spare held 37 (.slice A n cap) d p) : ∃ zs : List Int, Bs w A n cap zs := by
 obtain ⟨fuel, hf⟩ := h
 rcases open_ints Tryz.underlying37 Tryz.underlying5 (by kernel_rfl) hf with ⟨hcs, _⟩ | ⟨x, l, c, zs, hcs, _, hl, hm, hz, _, hcell, hwz⟩
 ·simp [Value.cells] at hcs
  obtain ⟨rfl, rfl, rfl⟩ := hcs
  exact ⟨[], ⟨rfl, Nat.le_refl _, by omega, fun _ => ⟨rfl, rfl⟩, by simp, fun h => by omega⟩⟩
 ·simp [Value.cells] at hcs
  obtain ⟨rfl, rfl, rfl⟩ := hcs
  have hn : n ≤ zs.length := by rw [hz]; split <;> omega
  refine ⟨zs.take n, by simp; omega, hl, by unfold maxLen at hm; omega, (fun e => by cases e), fun z hz' => ?_, fun h0 => ?_⟩
  ·have := hwz z (List.mem_of_mem_take hz')
   simp [Lit.wf, IntKind.min, IntKind.max, IntKind.signed, IntKind.bits] at this
   omega
  ·obtain ⟨b, off, spot⟩ := x
   have hc0 := hcell 0 (by omega)
   have hspot : spot = none := by simpa [Addr.add] using World.cell?_spot hc0
   subst hspot
   refine ⟨b, off, rfl, ?_, fun i hi => ?_⟩
   ·have := World.block_lt_of_cell? _ _ hc0
    simpa [Addr.add] using this
   ·have := hcell i (by omega)
    rw [add_none] at this
    rw [this]
    simp [List.getD, List.getElem?_take, hi]
end
section
variable {H : Type} {enc : TypeId × Value → H} {w : World} {base : Nat} {spare : Nat → Bool} {held : Bool} {n : Nat} {fs : Array Field} {xs : List Value}
end
theorem wf_i64_bd {z : Int} (h : (Lit.int .i64 z).wf = true) : -9223372036854775808 ≤ z ∧ z ≤ 9223372036854775807 := by
 simp [Lit.wf, IntKind.min, IntKind.max, IntKind.signed, IntKind.bits] at h; omega
theorem wf_u8_bd {z : Int} (h : (Lit.int .u8 z).wf = true) : 0 ≤ z ∧ z ≤ 255 := by
 simp [Lit.wf, IntKind.min, IntKind.max, IntKind.signed, IntKind.bits] at h; omega
theorem wf_u64_bd {z : Int} (h : (Lit.int .u64 z).wf = true) : 0 ≤ z ∧ z ≤ 18446744073709551615 := by
 simp [Lit.wf, IntKind.min, IntKind.max, IntKind.signed, IntKind.bits] at h; omega
theorem Tryz.own : ownKnob Tryz.prog.godebug = none := by kernel_rfl
theorem Tryz.laidOut : laidOutB Tryz.prog = true := by kernel_rfl
open Go.RowKit
theorem wpList_load_run {P : Program} {ops : Array Oper} {rest : List Oper} {o : Oper} {a : Act} {w : World} {Q : Exit → Act → World → Prop} {p : Operand} {t : TypeId} {v1 v : Value}
    (hr : (Instr.loadAt t v1).run P w = .ok v w) (hg : o.guard = none) (ho : o.op = .load t p) (hp : a.eval p = v1)
    (h : wpList P ops Q rest (a.put o.dst v) w) : wpList P ops Q (o :: rest) a w := by
 refine wpList_plain hg fun K hK => ?_
 unfold Oper.wp execOp
 simp only [ho, Sem.run_bind, Sem.run_pure, Result.andThen_ok, hp, hr]
 exact hK _ _ h
theorem wpList_store_run {P : Program} {ops : Array Oper} {rest : List Oper} {o : Oper} {a : Act} {w w' : World} {Q : Exit → Act → World → Prop} {p x : Operand} {t : TypeId} {v1 v2 : Value}
    (hr : (Instr.storeAt t v1 v2).run P w = .ok () w') (hg : o.guard = none) (ho : o.op = .store t p x) (hp : a.eval p = v1) (hx : a.eval x = v2)
    (h : wpList P ops Q rest (a.put o.dst undef) w') : wpList P ops Q (o :: rest) a w := by
 refine wpList_plain hg fun K hK => ?_
 unfold Oper.wp execOp
 simp only [ho, Sem.run_bind, Sem.run_pure, Result.andThen_ok, hp, hx, hr]
 exact hK _ _ h
theorem Tryz.info152 : (Tryz.prog.info? 152).map (fun i => (i.zero, i.size)) = some (some (.agg (List.replicate 256 (Value.int .u32 0)).toArray), 256) := by kernel_rfl
theorem table_size : (Tryz.prog.info? 152).map (·.size) = some 256 := (zero_of_info Tryz.info152).2
theorem run_loadAt_row {w : World} {g : Nat} {cs : List Value} {T : TypeId} (h : Blk w g cs T) (hl : cs.length = 256) : (Instr.loadAt 152 (.pointer (some ⟨g, 0, none⟩))).run Tryz.prog w = .ok (.agg cs.toArray) w := by
 simp only [Instr.loadAt, Instr.sureAddr, Sem.run_bind, Sem.run_pure, Result.andThen]
 exact run_loadVar_row _ _ _ 152 cs.toArray (0, 0) _ h Tryz.underlying152 rfl (by rw [table_size]; simp [hl])
theorem run_loadVar_tbl {w : World} {g : Nat} {cs : List Value} {T : TypeId} (h : Blk w g cs T) (hl : cs.length = 256) : (loadVar 152 ⟨g, 0, none⟩).run Tryz.prog w = .ok (.agg cs.toArray) w :=
  run_loadVar_row _ _ _ 152 cs.toArray (0, 0) _ h Tryz.underlying152 rfl (by rw [table_size]; simp [hl])
theorem run_storeAt_row {w : World} {g : Nat} {cs ds : List Value} {T : TypeId} (h : Blk w g cs T) (hl : cs.length = 256) (hd : ds.length = 256) (h1 : ∀ v ∈ ds, v.oneCell' = true) : (Instr.storeAt 152 (.pointer (some ⟨g, 0, none⟩)) (.agg ds.toArray)).run Tryz.prog w = .ok () (w.setRow g ds.toArray) := by
 simp only [Instr.storeAt, Instr.sureAddr, Sem.run_bind, Sem.run_pure, Result.andThen]
 exact run_storeVar_row _ _ _ 152 cs.toArray ds.toArray h (by rw [table_size]; simp [hd]) (by simp [hl, hd]) (Array.all_eq_true_iff_forall_mem.2 (fun v hv => h1 v (by simpa using hv)))
theorem Blk.setRow {w : World} {g : Nat} {cs ds : List Value} {T : TypeId} (h : Blk w g cs T) : Blk (w.setRow g ds.toArray) g ds T := by
 unfold Blk at *
 simp only [World.setRow, Array.getElem?_modify, if_true, h]
 rfl
theorem tl32 (P : Prop) (h : P := by
 refine ⟨h.os, h.tape, h.output, by simpa [World.setRow] using h.size, fun i hi hn => ?_⟩
 rw [← h.block i hi hn]
 have hne : ¬ g = i := fun e => hn (by subst e; exact hg hi)
 simp [World.setRow, Array.getElem?_modify, hne]) : P := h
theorem keeps_setRow {S : Nat → Prop} {a w : World} {g : Nat} {ds : Array Value} (h : Keeps S a w) (hg : g < a.heap.size → S g) : Keeps S a (w.setRow g ds) := by
 exact tl32 _
theorem results_cell1 {fn : Func} {p : Tmp} {ty : TypeId} (h : fn.results = #[.cell p ty]) (tmps : Array Value) (P : Program) (w : World) :
    (results fn tmps).run P w = ((asAddr (tmps.getD p undef)).run P w).andThen fun a w₁ => (loadVar ty a).run P w₁ := by
 simp only [results, h]
 simp [Sem.run_bind, Result.andThen]
theorem half1_odd {x : Nat} (h : x % 2 = 1) : half1 x = (x / 2) ^^^ 3988292384 := by unfold half1; rw [if_pos h]
theorem half1_even {x : Nat} (h : ¬ x % 2 = 1) : half1 x = x / 2 := by unfold half1; rw [if_neg h]
theorem bits_odd (x : Nat) (hx : x < 4294967296) : bits .and .u32 (x : Int) 1 = ((x % 2 : Nat) : Int) := by
 have := u32_and_nat x 1 hx (by decide)
 rw [nat_mask1] at this
 exact this
theorem bits_poly (x : Nat) (hx : x < 4294967296) : bits .xor .u32 ((x : Int) / 2) 3988292384 = (((x / 2) ^^^ 3988292384 : Nat) : Int) := by
 have := u32_xor_nat (x / 2) 3988292384 (by omega) (by decide)
 exact this
theorem tl33 (P : Prop) (h : P := by
 have HO := Lib.hid (half1_odd ho)
 clear ho
 go_wp2
 go_round
 case rel => exact ⟨k + 1, by omega, by go_num, by rw [HS.out, HO.out]⟩
 case measure => simp [intOf]; omega) : P := h
theorem tl34 (P : Prop) (h : P := by
 go_wp2
 go_round
 case rel => exact ⟨k + 1, by omega, by go_num, by rw [HS.out, HO.out]; rfl⟩
 case measure => simp [intOf]; omega) : P := h
set_option maxRecDepth 100000 in
theorem sone_any (i : Nat) (hi : i < 256) (w : World) : Calls Tryz.prog 128 #[.int .i64 i] w fun e w' => e = .returned (.int .u32 (halves 8 i)) ∧ w = w' := by
 go_enter Tryz.func128, Tryz.ntmps128
 go_wp2
 go_loop [3, 7] (fun xv kv => ∃ k : Nat, k ≤ 8 ∧ kv = .int .i64 k ∧ xv = .int .u32 (halves k i)) (fun _ kv => 8 - (intOf kv).toNat)
 case atStart => exact ⟨0, by decide, rfl, rfl⟩
 case round =>
  obtain ⟨k, hk, rfl, rfl⟩ := hrel
  have hx := halves_lt k (x := i) (by omega)
  have HS := Lib.hid (halves_succ k i)
  generalize hgx : halves k i = x at *
  have HX := Lib.hid hgx
  clear hgx
  by_cases h8 : k < 8
  ·have e1 := bits_odd x hx
   by_cases ho : x % 2 = 1
   ·have e2 := bits_poly x hx
    rw [ho] at e1
    exact tl33 _
   ·have h0 : x % 2 = 0 := by omega
    rw [h0] at e1
    have HO := Lib.hid (half1_even ho)
    clear ho h0
    exact tl34 _
  ·obtain rfl : k = 8 := by omega
   clear HS hk h8
   go_wp2
   go_ret
   exact ⟨by rw [HX.out]; rfl, rfl⟩
def tblL (k : Nat) : List Value := (List.range 256).map (fun i => .int .u32 (if i < k then (halves 8 i : Int) else 0))
theorem tblL_len (k : Nat) : (tblL k).length = 256 := by simp [tblL]
theorem tblL_get (k i : Nat) (hi : i < 256) : (tblL k)[i]? = some (.int .u32 (if i < k then (halves 8 i : Int) else 0)) := by
 simp [tblL, List.getElem?_range, hi]
theorem tblL_zero : tblL 0 = List.replicate 256 (Value.int .u32 0) := by
 apply List.ext_getElem?
 intro i
 by_cases hi : i < 256
 ·rw [tblL_get _ _ hi, List.getElem?_replicate, if_pos hi, if_neg (Nat.not_lt_zero _)]
 ·rw [List.getElem?_eq_none (by rw [tblL_len]; omega), List.getElem?_eq_none (by rw [List.length_replicate]; omega)]
theorem tblL_set (k : Nat) : (tblL k).set k (.int .u32 (halves 8 k : Int)) = tblL (k + 1) := by
 apply List.ext_getElem?
 intro i
 rw [List.getElem?_set]
 by_cases hi : i < 256
 ·rw [tblL_get _ _ hi, tblL_get _ _ hi, tblL_len]
  by_cases e : k = i
  ·subst e; simp [hi]
  ·by_cases h2 : i < k
   ·simp [e, h2, show i < k + 1 by omega]
   ·simp [e, h2, show ¬ i < k + 1 by omega]
 ·have h1 : (tblL k)[i]? = none := List.getElem?_eq_none (by rw [tblL_len]; omega)
  have h2 : (tblL (k + 1))[i]? = none := List.getElem?_eq_none (by rw [tblL_len]; omega)
  rw [h1, h2, tblL_len]
  by_cases e : k = i
  ·rw [if_pos e, if_neg (by omega)]
  ·rw [if_neg e]
theorem tblL_one (k : Nat) : ∀ v ∈ tblL k, v.oneCell' = true := by
 intro v hv
 obtain ⟨i, _, rfl⟩ := List.mem_map.1 hv
 rfl
set_option maxRecDepth 100000 in
set_option maxHeartbeats 1600000 in
theorem stable_any (w : World) : Calls Tryz.prog 115 #[] w fun e w' => e = .returned (.agg (tblL 256).toArray) ∧ Keeps None w w' := by
 have hz := (zero_of_info Tryz.info152).1
 rw [← tblL_zero] at hz
 go_enter Tryz.func115, Tryz.ntmps115
 go_wp2
 have K0 : Hid (Blk ((w.alloc (.cells (tblL 0).toArray 152)).alloc (.cells (tblL 0).toArray 152)) w.heap.size (tblL 0) 152 ∧ Blk ((w.alloc (.cells (tblL 0).toArray 152)).alloc (.cells (tblL 0).toArray 152)) (w.heap.size + 1) (tblL 0) 152 ∧ Keeps None w ((w.alloc (.cells (tblL 0).toArray 152)).alloc (.cells (tblL 0).toArray 152))) :=
  ⟨(Blk.new _ _ _).alloc _, by have := Blk.new (w.alloc (.cells (tblL 0).toArray 152)) (tblL 0) 152; simpa using this, ((Keeps.refl _ _).alloc _).alloc _⟩
 clear hz
 go_loopw [3] (fun iv wr => ∃ k : Nat, k ≤ 256 ∧ iv = .int .i64 k ∧ Blk wr w.heap.size (tblL 0) 152 ∧ Blk wr (w.heap.size + 1) (tblL k) 152 ∧ Keeps None w wr) (fun iv _ => 256 - (intOf iv).toNat)
 case atStart => exact ⟨0, by decide, rfl, K0.out.1, K0.out.2.1, K0.out.2.2⟩
 case round =>
  obtain ⟨k, hk, rfl, hb0, hb1, hK⟩ := hrel
  clear K0
  have HB0 := Lib.hid hb0
  have HB1 := Lib.hid hb1
  have HK := Lib.hid hK
  by_cases hlt : k < 256
  ·have ONE := Lib.hid (fun w => sone_any k hlt w)
   have c1 := hb1.cellD k _ (tblL_get k k hlt)
   have f1 := hb1.frozen k
   have SET := Lib.hid (hb1.set k (.int .u32 (halves 8 k : Int)))
   rw [tblL_set] at SET
   generalize (halves 8 k : Int) = x at *
   clear hb0 hb1 hK
   go_wp2_with fail
   refine (ONE.out _).mono ?_
   rintro e w' ⟨rfl, rfl⟩
   go_wp2
   go_roundw
   case rel => exact ⟨k + 1, by omega, by go_num, HB0.out.setOther _ _ (by simp), SET.out, HK.out.setCell _ _ (fun h => by simp at h; omega)⟩
   case measure => simp [intOf]; omega
  ·obtain rfl : k = 256 := by omega
   have R1 := Lib.hid (run_loadAt_row hb1 (tblL_len _))
   have R2 := Lib.hid (run_storeAt_row hb0 (tblL_len _) (tblL_len 256) (tblL_one _))
   have R3 := Lib.hid (run_loadVar_tbl (hb0.setRow (ds := tblL 256)) (tblL_len 256))
   have KF := Lib.hid (keeps_setRow (ds := (tblL 256).toArray) hK (g := w.heap.size) (fun h => by omega))
   clear hb0 hb1 hK HB0 HB1
   go_wp2_with (first | (refine wpList_load_run R1.out rfl rfl rfl ?_) | (refine wpList_store_run R2.out rfl rfl rfl rfl ?_))
   refine bodyPost_ret (v := .agg (tblL 256).toArray) ?_ rfl ⟨rfl, KF.out⟩
   rw [results_cell1 (p := 0) (ty := 152) rfl]
   show ((asAddr (.pointer (some ⟨w.heap.size, 0, none⟩))).run Tryz.prog _).andThen _ = _
   simp only [asAddr, Sem.run_pure, Result.andThen_ok]
   exact R3.out
theorem not32 (x : Nat) (h : x < 4294967296) : bits .xor .u32 IntKind.u32.max (x : Int) = ((x ^^^ 4294967295 : Nat) : Int) := by
 have e : IntKind.u32.max = ((4294967295 : Nat) : Int) := by decide
 rw [e, u32_xor_nat 4294967295 x (by decide) h, Nat.xor_comm]
def natL (zs : List Int) : List Nat := zs.map Int.toNat
theorem natL_take (zs : List Int) (k : Nat) (hk : k < zs.length) : natL (zs.take (k + 1)) = natL (zs.take k) ++ [(zs.getD k 0).toNat] := by
 unfold natL
 rw [← take_snoc zs k hk, List.map_append, getD_get 0 hk]; rfl
theorem natL_lt {zs : List Int} (h : ∀ z ∈ zs, 0 ≤ z ∧ z ≤ 255) : ∀ c ∈ natL zs, c < 256 := by
 intro c hc
 obtain ⟨z, hz, rfl⟩ := List.mem_map.1 hc
 have := h z hz
 omega
set_option maxRecDepth 100000 in
set_option maxHeartbeats 1600000 in
theorem ssum_any (A : Option Addr) (n cap : Nat) (zs : List Int) (w : World) (h : Bs w A n cap zs) :
    Calls Tryz.prog 103 #[.slice A n cap] w fun e w' => e = .returned (.int .u32 (crcOf (natL zs))) ∧ Keeps None w w' := by
 have hz := (zero_of_info Tryz.info152).1
 rw [← tblL_zero] at hz
 have HZ := Lib.hid hz
 have hle := h.le
 have hmax := h.max
 have HL := Lib.hid h.len
 have HB := Lib.hid h
 have HBY := Lib.hid h.byte
 clear h hz
 go_enter Tryz.func103, Tryz.ntmps103
 go_wp2_with fail
 refine (stable_any _).mono ?_
 rintro e w1 ⟨rfl, hk⟩
 have hz := HZ.out
 have R2 := Lib.hid (run_storeAt_row (Blk.new w1 (tblL 0) 152) (tblL_len _) (tblL_len 256) (tblL_one _))
 have HK := Lib.hid (keeps_setRow (ds := (tblL 256).toArray) (hk.alloc (.cells (tblL 0).toArray 152)) (g := w1.heap.size) (S := None) (fun h => by have := hk.size; omega))
 have HT := Lib.hid ((Blk.new w1 (tblL 0) 152).setRow (ds := tblL 256))
 have hk2 := hk.size
 clear hk
 go_wp2_with (refine wpList_store_run R2.out rfl rfl rfl rfl ?_)
 generalize hwx : (w1.alloc (.cells (tblL 0).toArray 152)).setRow w1.heap.size (tblL 256).toArray = wx at *
 clear hwx R2 hz HZ
 go_loop [4, 10] (fun xv kv => ∃ k : Nat, k ≤ n ∧ kv = .int .i64 k ∧ xv = .int .u32 (crcRun 4294967295 (natL (zs.take k)))) (fun _ kv => n - (intOf kv).toNat)
 case atStart => exact ⟨0, Nat.zero_le _, rfl, rfl⟩
 case round =>
  obtain ⟨k, hk, rfl, rfl⟩ := hrel
  have hx : crcRun 4294967295 (natL (zs.take k)) < 4294967296 := crcRun_lt (by decide) (natL_lt (fun z hz => HBY.out z (List.mem_of_mem_take hz)))
  by_cases hlt : k < n
  ·obtain ⟨bl, of1, z, rfl, hz1, hza, hzb, hc1⟩ := (HB.out.keeps HK.out (fun _ _ _ _ _ h => h)).get hlt
   obtain ⟨c, rfl⟩ : ∃ c : Nat, z = c := ⟨z.toNat, by omega⟩
   have HS : Hid (crcRun 4294967295 (natL (zs.take (k + 1))) = crcStep (crcRun 4294967295 (natL (zs.take k))) c) := by
    show _ = _
    rw [natL_take zs k (by rw [HL.out]; exact hlt), crcRun_append, hz1]; rfl
   generalize crcRun 4294967295 (natL (zs.take k)) = x at *
   have hc : c < 256 := by omega
   have e1 : bits .xor .u8 ((x : Int) % 256) c = ((x % 256 ^^^ c : Nat) : Int) := u8_xor_nat (x % 256) c (Nat.mod_lt _ (by decide)) hc
   have hi : x % 256 ^^^ c < 256 := Nat.xor_lt_two_pow (n := 8) (Nat.mod_lt _ (by decide)) hc
   have e2 : bits .xor .u32 ((x : Int) / 256) (halves 8 (x % 256 ^^^ c) : Nat) = ((crcStep x c : Nat) : Int) := u32_xor_nat (x / 256) _ (by omega) (halves_lt 8 (by omega))
   have c2 := HT.out.cellD _ _ (tblL_get 256 _ hi)
   rw [if_pos hi] at c2
   generalize crcStep x c = y at *
   generalize halves 8 (x % 256 ^^^ c) = hh at *
   generalize x % 256 ^^^ c = ii at *
   clear hz1
   go_wp2
   go_round
   case rel => exact ⟨k + 1, by omega, by go_num, by rw [HS.out]⟩
   case measure => simp [intOf]; omega
  ·obtain rfl : k = n := by omega
   rw [List.take_of_length_le (by rw [HL.out]; exact Nat.le_refl _)] at hx ⊢
   have HF : Hid (crcOf (natL zs) = crcRun 4294967295 (natL zs) ^^^ 4294967295) := rfl
   generalize crcRun 4294967295 (natL zs) = x at *
   go_wp2
   go_ret
   exact ⟨by rw [HF.out, ← not32 x hx]; rfl, HK.out⟩
open Go.RowKit
set_option maxRecDepth 100000 in
set_option maxHeartbeats 1600000 in
theorem grow_any (n : Nat) (w : World) (h0 : 0 < n) (h1 : n ≤ 1000000) : Calls Tryz.prog 79 #[.slice none 0 0, .int .i64 n] w fun e w' => ∃ v, e = .returned v ∧ Own w' w.heap.size v [] ∧ Keeps None w w' := by
 obtain ⟨i, hi, hz0, hz1, hz2⟩ := info_parts Tryz.info5
 have hold : (Builtin.firstCells i.size 0 (.slice none 0 0)).run Tryz.prog w.drew = .ok #[] w.drew := run_firstCells_none w.drew i.size 0 0 0
 have hrz := Lib.run_append_grow_zeros (P := Tryz.prog) w 37 3 37 5 i (.int .u8 0) .i64 .i64 Tryz.underlying37 Tryz.underlying3 hi hz0 none 0 0 [] hold n (by omega) (by omega) (by omega) (by omega) (by rw [hz2]; omega) (growslice_fits (by omega) (by rw [hz2]; omega))
 rw [Nat.zero_add] at hrz
 have hsz : (#[] ++ Builtin.zeroCells (Value.int .u8 0).cells n ++ Builtin.zeroCells (Value.int .u8 0).cells (grownCap w n 0 5 - n)).size = grownCap w n 0 5 * 1 := by
  have := grownCap_ge w n 0 5
  simp [size_zeroCells, Value.cells]
  omega
 have hG1 := grownCap_ge w n 0 5
 have hG2 := grownCap_le_maxLen w n 0 5 (by unfold maxLen; omega)
 have OWN := Lib.hid (World.ownsRow_made (e := 5) (size := 1) (base := w.heap.size) w.drew _ _ (Nat.le_refl _) hG2 hsz)
 have hG3 : grownCap w n 0 5 ≤ 9223372036854775807 := by unfold maxLen at hG2; omega
 have KK := Lib.hid ((Keeps.refl None w).drew.alloc (.cells (#[] ++ Builtin.zeroCells (Value.int .u8 0).cells n ++ Builtin.zeroCells (Value.int .u8 0).cells (grownCap w n 0 5 - n)) 5))
 generalize hC : (#[] ++ Builtin.zeroCells (Value.int .u8 0).cells n ++ Builtin.zeroCells (Value.int .u8 0).cells (grownCap w n 0 5 - n)) = C at *
 generalize grownCap w n 0 5 = G at *
 clear hC hold hsz hG2
 have HR := Lib.hid hrz
 clear hrz hi hz0 hz1 hz2
 go_enter Tryz.func79, Tryz.ntmps79
 go_wp2_with (at_builtin; refine Lib.wpList_append_run _ rfl _ _ _ _ rfl _ _ rfl rfl _ _ HR.out ?_)
 go_ret
 exact ⟨_, rfl, ⟨OWN.out, by simp⟩, KK.out⟩
structure Part where
  A : Option Addr
  n : Nat
  cap : Nat
  zs : List Int
def Part.val (p : Part) : Value := .slice p.A p.n p.cap
def tot (ps : List Part) : Nat := (ps.map Part.n).sum
def cat (ps : List Part) : List Int := ps.flatMap Part.zs
theorem take_snoc' {α : Type} (l : List α) (k : Nat) (hk : k < l.length) : l.take (k + 1) = l.take k ++ [l[k]] := by
 rw [List.take_add_one, List.getElem?_eq_getElem hk]; rfl
theorem tot_take (ps : List Part) (k : Nat) (hk : k < ps.length) : tot (ps.take (k + 1)) = tot (ps.take k) + ps[k].n := by
 unfold tot
 rw [take_snoc' ps k hk, List.map_append, List.sum_append_nat]; simp
theorem tot_le (ps : List Part) (k : Nat) : tot (ps.take k) ≤ tot ps := by
 have e : tot ps = tot (ps.take k) + tot (ps.drop k) := by
  unfold tot
  rw [← List.sum_append_nat, ← List.map_append, List.take_append_drop]
 omega
theorem cat_take (ps : List Part) (k : Nat) (hk : k < ps.length) : cat (ps.take (k + 1)) = cat (ps.take k) ++ ps[k].zs := by
 unfold cat
 rw [take_snoc' ps k hk, List.flatMap_append]; simp
theorem cat_length (ps : List Part) (h : ∀ p ∈ ps, p.zs.length = p.n) : (cat ps).length = tot ps := by
 induction ps with
 | nil => rfl
 | cons p ps ih =>
  have h1 := ih (fun q hq => h q (List.mem_cons_of_mem _ hq))
  have h2 := h p List.mem_cons_self
  simp only [cat, List.flatMap_cons, List.length_append, tot, List.map_cons, List.sum_cons] at h1 ⊢
  omega
set_option maxRecDepth 100000 in
set_option maxHeartbeats 1600000 in
theorem concat_any (ps : List Part) (m bp : Nat) (T : TypeId) (w : World) (hb : Blk w bp (ps.map Part.val) T) (hm : ps.length = m) (hs : ∀ p ∈ ps, Bs w p.A p.n p.cap p.zs) (h0 : 0 < tot ps) (h1 : tot ps ≤ 1000000) (hm2 : m ≤ 1000) :
    Calls Tryz.prog 57 #[.slice (some ⟨bp, 0, none⟩) m m] w fun e w' => ∃ v, e = .returned v ∧ Own w' w.heap.size v (cat ps) ∧ Keeps None w w' := by
 have HB := Lib.hid hb
 have HM := Lib.hid hm
 have HS := Lib.hid hs
 clear hb hm hs
 go_enter Tryz.func57, Tryz.ntmps57
 go_wp2
 go_loop [3, 11] (fun sv iv => ∃ k : Nat, k ≤ m ∧ iv = .int .i64 k ∧ sv = .int .i64 (tot (ps.take k))) (fun _ iv => m - (intOf iv).toNat)
 case atStart => exact ⟨0, Nat.zero_le _, rfl, rfl⟩
 case round =>
  obtain ⟨k, hk, rfl, rfl⟩ := hrel
  by_cases hlt : k < m
  ·have hk2 : k < ps.length := by rw [HM.out]; exact hlt
   have TT := Lib.hid (tot_take ps k hk2)
   have c1 : w.cell? ⟨bp, k, none⟩ = some (.slice ps[k].A ps[k].n ps[k].cap)   := HB.out.cellD k _ (by simp [Part.val, hk2])
   have tle := tot_le ps (k + 1)
   rw [TT.out] at tle
   generalize tot (ps.take k) = tk at *
   generalize ps[k] = pk at *
   obtain ⟨A, n, cap, zs⟩ := pk
   simp only at c1 TT tle
   have g1 : decide ((tk : Int) + n < 0) = false := decide_eq_false (by omega)
   go_wp2
   go_round
   case rel => exact ⟨k + 1, by omega, by go_num, by rw [TT.out]; go_num⟩
   case measure => simp [intOf]; omega
  ·obtain rfl : k = m := by omega
   rw [List.take_of_length_le (by rw [HM.out]; exact Nat.le_refl _)]
   have HC := Lib.hid (cat_length ps (fun p hp => (HS.out p hp).len))
   have GR := Lib.hid (fun w => grow_any (tot ps) w h0 h1)
   generalize tot ps = N at *
   go_wp2_with fail
   refine (GR.out _).mono ?_
   rintro e w1 ⟨v1, rfl, o1, k1⟩
   have O1 := Lib.hid o1
   have K1 := Lib.hid k1
   clear o1 k1 GR
   go_wp2
   go_loopw [6, 27] (fun ov iv wr => ∃ q : Nat, q ≤ k ∧ iv = .int .i64 q ∧ Own wr w.heap.size ov (cat (ps.take q)) ∧ Keeps None w wr) (fun _ iv _ => k - (intOf iv).toNat)
   case atStart => exact ⟨0, Nat.zero_le _, rfl, O1.out, K1.out⟩
   case round =>
    obtain ⟨q, hq, rfl, hO, hK⟩ := hrel
    by_cases hlq : q < k
    ·have hq2 : q < ps.length := by rw [HM.out]; exact hlq
     have CT := Lib.hid (cat_take ps q hq2)
     have c1 : wr.cell? ⟨bp, q, none⟩ = some (.slice ps[q].A ps[q].n ps[q].cap)   := (hK.blk HB.out (fun h => h)).cellD q _ (by simp [Part.val, hq2])
     have BS := Lib.hid ((HS.out ps[q] (List.getElem_mem hq2)).keeps hK (fun _ _ _ _ _ h => h))
     have cl : (cat (ps.take q)).length + ps[q].zs.length ≤ N := by
      have h3 := tot_le ps (q + 1)
      have h4 := cat_length (ps.take (q + 1)) (fun p hp => (HS.out p (List.mem_of_mem_take hp)).len)
      have h5 := cat_length ps (fun p hp => (HS.out p hp).len)
      have h6 := HC.out
      rw [CT.out, List.length_append] at h4
      omega
     generalize ps[q] = pq at *
     obtain ⟨A, n, cap, zs⟩ := pq
     simp only at c1 CT BS cl
     have HO := Lib.hid hO
     have HK := Lib.hid hK
     have hn := BS.out.len
     clear hO hK
     go_wp2_with (at_builtin; refine wpList_append_bs HO.out BS.out (by omega) HK.out.size rfl rfl rfl rfl rfl ?_; intro v' w4 ho4 hk4)
     go_roundw
     case rel => exact ⟨q + 1, by omega, by go_num, by rw [CT.out]; exact ho4, HK.out.trans hk4 (fun _ h => h) (fun i hi e => absurd e (HO.out.notBelow hi))⟩
     case measure => simp [intOf]; omega
    ·obtain rfl : q = k := by omega
     rw [List.take_of_length_le (by rw [HM.out]; exact Nat.le_refl _)] at hO
     have HO := Lib.hid hO
     have HK := Lib.hid hK
     clear hO hK
     go_wp2
     go_ret
     exact ⟨_, rfl, HO.out, HK.out⟩
open Go.RowKit
def le4 (x : Nat) : List Int := [(x : Int) % 256, (x : Int) / 256 % 256, (x : Int) / 65536 % 256, (x : Int) / 16777216]
theorem le4_byte (x : Nat) (hx : x < 4294967296) : ∀ z ∈ le4 x, 0 ≤ z ∧ z ≤ 255 := by
 intro z hz
 simp only [le4, List.mem_cons, List.not_mem_nil, or_false] at hz
 rcases hz with rfl | rfl | rfl | rfl <;> omega
theorem Own.lit (w : World) (zs : List Int) (hz : ∀ z ∈ zs, 0 ≤ z ∧ z ≤ 255) (hl : zs.length ≤ 1000000) : Own (w.alloc (.cells (zs.map (Value.int .u8)).toArray 5)) w.heap.size (.slice (some ⟨w.heap.size, 0, none⟩) zs.length zs.length) zs := by
 refine ⟨?_, hz⟩
 have := World.ownsRow_lit (base := w.heap.size) (e := 5) (size := 1) w (zs.map (Value.int .u8)).toArray zs.length (Nat.le_refl _) (by unfold maxLen; omega) (by simp)
 simpa using this
set_option maxRecDepth 100000 in
theorem sfour_any (x : Nat) (hx : x < 4294967296) (w : World) : Calls Tryz.prog 102 #[.int .u32 x] w fun e w' => ∃ v, e = .returned v ∧ Own w' w.heap.size v (le4 x) ∧ Keeps None w w' := by
 have OL := Lib.hid (Own.lit w (le4 x) (le4_byte x hx) (by simp [le4]))
 go_enter Tryz.func102, Tryz.ntmps102
 go_wp2
 go_ret
 exact ⟨_, rfl, OL.out, (Keeps.refl _ _).alloc _⟩
def sizeZ (n : Int) : Int := if n < 0 ∨ 512 < n then 0 else 16 + (n + 7) / 8 * 8
set_option maxRecDepth 100000 in
theorem ssize_any (n : Int) (w : World) : Calls Tryz.prog 112 #[.int .i64 n] w fun e w' => e = .returned (.int .i64 (sizeZ n)) ∧ w = w' := by
 by_cases h1 : n < 0
 ·have d1 : decide (n < 0) = true := decide_eq_true h1
  have e : sizeZ n = 0 := if_pos (.inl h1)
  rw [e]
  go_enter Tryz.func112, Tryz.ntmps112
  go_wp2
  go_ret
  exact ⟨rfl, rfl⟩
 have d1 : decide (n < 0) = false := decide_eq_false h1
 by_cases h2 : 512 < n
 ·have d2 : decide (512 < n) = true := decide_eq_true h2
  have e : sizeZ n = 0 := if_pos (.inr h2)
  rw [e]
  go_enter Tryz.func112, Tryz.ntmps112
  go_wp2
  go_ret
  exact ⟨rfl, rfl⟩
 have d2 : decide (512 < n) = false := decide_eq_false h2
 have e : sizeZ n = 16 + (n + 7) / 8 * 8 := if_neg (by omega)
 rw [e]
 have h3 : n ≤ 512 := by omega
 have h4 : 0 ≤ n := by omega
 obtain ⟨m, rfl⟩ : ∃ m : Nat, n = m := ⟨n.toNat, by omega⟩
 go_enter Tryz.func112, Tryz.ntmps112
 go_wp2
 go_ret
 exact ⟨by first | rfl | (congr 1; simp; omega), rfl⟩
def padK (n : Nat) : Nat := (8 - n % 8) % 8
def headL (kind seq : Int) (n : Nat) : List Int := [kind, 0, (n : Int) % 256, (n : Int) / 256]
def frontL (kind seq : Int) (zs : List Int) : List Int := headL kind seq zs.length ++ le4 seq.toNat ++ zs ++ List.replicate (padK zs.length) 0
def sumOf (zs : List Int) : Nat := crcOf (natL zs)
def tailL (zs : List Int) : List Int := le4 (sumOf zs) ++ le4 (sumOf zs ^^^ 4294967295)
def fitsR (kind seq : Int) (n : Nat) : Prop := 1 ≤ kind ∧ kind ≤ 250 ∧ 0 ≤ seq ∧ seq ≤ 4294967295 ∧ n ≤ 512
instance (kind seq : Int) (n : Nat) : Decidable (fitsR kind seq n) := inferInstanceAs (Decidable (_ ∧ _ ∧ _ ∧ _ ∧ _))
def putL (kind seq : Int) (zs : List Int) : List Int := if fitsR kind seq zs.length then frontL kind seq zs ++ tailL (frontL kind seq zs) else []
open Go.RowKit
section Mix3
variable {P : Program} {ops : Array Oper} {C : World → Prop} {Q : Exit → Act → World → Prop} {md : Region.Mode} {E : List Nat} {R : Act → World → Prop} {U : List Nat} {pos : Nat → Nat} {free : Nat → Nat → Bool}
def unlU (U : List Nat) (listed : Array Bool) : List Nat := U.filter fun i => !listed.getD i true
theorem mem_unlU {listed : Array Bool} {i : Nat} : i ∈ unlU U listed ↔ i ∈ U ∧ listed.getD i true = false := by
 simp [unlU]
structure MixOkU (md : Region.Mode) (ops : Array Oper) (E U : List Nat) (pos : Nat → Nat) (free : Nat → Nat → Bool) : Prop where
  sel : selFree ops
  mem : ∀ i, i ∈ U ↔ i < ops.size
  pw : U.Pairwise (fun x y => pos x < pos y)
  topo : ∀ i o, ops[i]? = some o → ∀ e ∈ o.after, Region.binds md e = true → e.on < i
  topoP : ∀ i o, ops[i]? = some o → ∀ e ∈ o.after, Region.binds md e = true → pos e.on < pos i
  plain : ∀ i o, ops[i]? = some o → E.contains i = false → plainOp o = true
  apart : ∀ i o p op, ops[i]? = some o → ops[p]? = some op → pos p < pos i → (∃ e ∈ o.after, Region.binds md e = true ∧ e.on = p) ∨ op.apart ops o = true
  chain : ∀ i o p op, ops[i]? = some o → ops[p]? = some op → pos p < pos i → E.contains p = true → E.contains i = true → free p i = false → i ∈ descendB md ops p ops.size
theorem descend_pos (ht : ∀ i o, ops[i]? = some o → ∀ e ∈ o.after, Region.binds md e = true → pos e.on < pos i) (i : Nat) : ∀ n, ∀ j ∈ descendB md ops i n, pos i ≤ pos j
  | 0, j, h => by simp [descendB] at h
  | n + 1, j, h => by
    have IH := descend_pos ht i n
    unfold descendB at h
    simp only [] at h
    split at h
    · rename_i hc
      rcases List.mem_cons.1 h with rfl | h
      · simp only [Bool.or_eq_true, beq_iff_eq] at hc
        rcases hc with rfl | hc
        · exact Nat.le_refl _
        · cases ho : ops[j]? with
          | none => simp [ho] at hc
          | some o =>
            simp only [ho, Option.map_some, Option.getD_some] at hc
            obtain ⟨e, he, hb⟩ := Array.any_eq_true'.1 hc
            simp only [Bool.and_eq_true, List.contains_iff_mem] at hb
            have h1 := ht j o ho e he hb.1
            have h2 := IH _ hb.2
            omega
      · exact IH j h
    · exact IH j h
theorem tl35 (P : Prop) (h : P := by
 rw [hu] at hm
 rcases List.mem_cons.1 hm with hm | hm
 ·rw [hm] at hop; exact absurd hop (Nat.lt_irrefl _)
 ·have := hpw.1 _ hm; omega) : P := h
theorem tl37 (P : Prop) (h : P := by
 unfold unlU
 exact tl15 _) : P := h
theorem tl36 (P : Prop) (h : P := by
 have e1 : unlU U (listed.setIfInBounds i true) = (unlU U listed).filter (fun j => j != i) := by
  exact tl37 _
 rw [e1, hsplit, List.filter_append, List.filter_cons]
 have f1 : pre.filter (fun j => j != i) = pre := List.filter_eq_self.2 fun p hp => by have := hpre p hp; simp; intro e; subst e; omega
 have f2 : post.filter (fun j => j != i) = post := List.filter_eq_self.2 fun p hp => by have := hpost p hp; simp; intro e; subst e; omega
 simp [f1, f2]) : P := h
theorem tl38 (P : Prop) (h : P := by
 intro p hp _
 unfold openB
 refine List.any_eq_true.2 ⟨i, List.mem_range.2 hlt, ?_⟩
 rw [hE]
 have : p ∉ descendB md ops i ops.size := fun hd => by have := descend_pos ok.topoP i _ p hd; have := hpre p hp; omega
 simp [this]) : P := h
theorem mixU_any (ok : MixOkU md ops E U pos free) : ∀ (n : Nat) (listed : Array Bool) (a : Act) (w : World), (unlU U listed).length ≤ n → listed.size = ops.size → (∀ p ∈ unlU U listed, ∀ i ∈ unlU U listed, free p i = false) →
    (∀ j oj, ops[j]? = some oj → listed.getD j false = true → ∀ e ∈ oj.after, Region.binds md e = true → listed.getD e.on false = true) →
    (∀ j ∈ unlU U listed, E.contains j = false → C w) → wpMixI P md ops C E (fun a w => Q .normal a w) (unlU U listed) a w → wpAny P md ops Q n listed a w := by
 intro n
 induction n with
 | zero =>
  intro listed a w hlen hsz hfree hcl hC h
  have hu : unlU U listed = [] := List.eq_nil_of_length_eq_zero (Nat.le_zero.1 hlen)
  rw [hu] at h
  refine ⟨?_, h⟩
  cases hr : Region.ready md ops listed with
  | nil => rfl
  | cons x xs =>
   have hx : x ∈ Region.ready md ops listed := by rw [hr]; exact List.mem_cons_self
   obtain ⟨h1, o, ho, _⟩ := mem_ready.1 hx
   have : x ∈ unlU U listed := mem_unlU.2 ⟨(ok.mem _).2 (Array.getElem?_eq_some_iff.1 ho).1, h1⟩
   rw [hu] at this; cases this
 | succ n ih =>
  intro listed a w hlen hsz hfree hcl hC h
  refine ⟨fun hr => ?_, fun i hi => ?_⟩
  ·-- nothing may come up: nothing is left
   cases hu : unlU U listed with
   | nil => rw [hu] at h; exact h
   | cons i0 U0 =>
    exfalso
    have hi0 : i0 ∈ unlU U listed := by rw [hu]; exact List.mem_cons_self
    obtain ⟨hlt0, hun⟩ := mem_unlU.1 hi0
    have hlt := (ok.mem _).1 hlt0
    have hpw : (unlU U listed).Pairwise (fun x y => pos x < pos y) := List.Pairwise.filter _ ok.pw
    rw [hu, List.pairwise_cons] at hpw
    have : i0 ∈ Region.ready md ops listed := by
     refine mem_ready.2 ⟨hun, ops[i0], by simp [hlt], fun e he hb => ?_⟩
     have hon := ok.topo i0 ops[i0] (by simp [hlt]) e he hb
     have hop := ok.topoP i0 ops[i0] (by simp [hlt]) e he hb
     cases hl : listed.getD e.on false with
     | true => rfl
     | false =>
      have hm : e.on ∈ unlU U listed := mem_unlU.2 ⟨(ok.mem _).2 (by omega), getD_in (by omega) hl⟩
      exact tl35 _
    rw [hr] at this; cases this
  ·obtain ⟨hun, o, ho, hall⟩ := mem_ready.1 hi
   have hlt : i < ops.size := (Array.getElem?_eq_some_iff.1 ho).1
   have hmem : i ∈ unlU U listed := mem_unlU.2 ⟨(ok.mem _).2 hlt, hun⟩
   obtain ⟨pre, post, hsplit⟩ := List.append_of_mem hmem
   have hpw : (unlU U listed).Pairwise (fun x y => pos x < pos y) := List.Pairwise.filter _ ok.pw
   rw [hsplit] at hpw
   have hpre : ∀ p ∈ pre, pos p < pos i := fun p hp => (List.pairwise_append.1 hpw).2.2 p hp i List.mem_cons_self
   have hpost : ∀ p ∈ post, pos i < pos p := fun p hp => (List.pairwise_cons.1 (List.pairwise_append.1 hpw).2.1).1 p hp
   have hunp : ∀ p ∈ pre, listed.getD p true = false := fun p hp => (mem_unlU.1 (by rw [hsplit]; exact List.mem_append_left _ hp)).2
   have hap : ∀ p ∈ pre, ∀ op, ops[p]? = some op → op.apart ops o = true := by
    exact tl11 _
   have hsz' : (listed.setIfInBounds i true).size = ops.size := by simp [hsz]
   have hcl' : ∀ j oj, ops[j]? = some oj → (listed.setIfInBounds i true).getD j false = true → ∀ e ∈ oj.after, Region.binds md e = true → (listed.setIfInBounds i true).getD e.on false = true := by
    exact tl12 _
   have hu' : unlU U (listed.setIfInBounds i true) = pre ++ post := by
    exact tl36 _
   have hlen' : (unlU U (listed.setIfInBounds i true)).length ≤ n := by
    rw [hu']; rw [hsplit] at hlen; simp at hlen ⊢; omega
   have hun' : ∀ j ∈ pre ++ post, j ≠ i ∧ listed.getD j true = false := by
    intro j hj
    rcases List.mem_append.1 hj with hj | hj
    ·exact ⟨by have := hpre j hj; intro e; subst e; omega, hunp j hj⟩
    ·exact ⟨by have := hpost j hj; intro e; subst e; omega, (mem_unlU.1 (by rw [hsplit]; exact List.mem_append_right _ (List.mem_cons_of_mem _ hj))).2⟩
   have hnot : ∀ j, j ≠ i → listed.getD j true = false → i ∉ descendB md ops j ops.size := by
    exact tl20 _
   have hsub : ∀ p ∈ pre ++ post, p ∈ unlU U listed := by
    intro p hp
    rw [hsplit]
    rcases List.mem_append.1 hp with hp | hp
    ·exact List.mem_append_left _ hp
    ·exact List.mem_append_right _ (List.mem_cons_of_mem _ hp)
   rw [hsplit] at h
   have keep : ∀ a' w', (∀ j ∈ pre ++ post, E.contains j = false → C w') → wpMixI P md ops C E (fun a w => Q .normal a w) (pre ++ post) a' w' → wpAny P md ops Q n (listed.setIfInBounds i true) a' w' :=
    fun a' w' hc hh => ih _ a' w' hlen' hsz' (by rw [hu']; intro p hp q hq; exact hfree p (hsub p hp) q (hsub q hq)) hcl' (by rw [hu']; exact hc) (by rw [hu']; exact hh)
   cases hE : E.contains i with
   | false =>
    have hCw := hC i hmem hE
    have hopen : ∀ p ∈ pre, E.contains p = true → openB md ops E p = true := by
     exact tl38 _
    exact tl21 _
   | true =>
    have hne : ∀ p ∈ pre, E.contains p = false := by
     intro p hp
     cases hEp : E.contains p with
     | false => rfl
     | true =>
      have hplt : p < ops.size := (ok.mem _).1 (mem_unlU.1 (hsub p (List.mem_append_left _ hp))).1
      have := ok.chain i o p ops[p] ho (by simp [hplt]) (hpre p hp) hEp hE (hfree p (hsub p (List.mem_append_left _ hp)) i hmem)
      exact absurd this (hnot p (by have := hpre p hp; intro e; subst e; omega) (hunp p hp))
    unfold wpOp
    simp only [ho]
    rcases mix_pickB ok.sel ho hE post pre a w hap hne h with ⟨h1, h2⟩ | ⟨h1, h2⟩
    ·simp only [h1, if_true]
     left
     refine wp_noExit (Oper.wp_mono (fun a' w' hh => keep a' w' (fun j hj hEj => hh.1 ?_) hh.2) h2)
     unfold openB
     obtain ⟨hji, hjl⟩ := hun' j hj
     have hjlt : j < ops.size := by
      have : j ∈ unlU U listed := by
       exact tl24 _
      exact (ok.mem _).1 (mem_unlU.1 this).1
     refine List.any_eq_true.2 ⟨j, List.mem_range.2 hjlt, ?_⟩
     have := hnot j hji hjl
     rw [hEj]
     simp [this]
    ·exact tl25 _
theorem unlU_set (ok : MixOkU md ops E U pos free) {listed : Array Bool} {i : Nat} {o : Oper} (hi : i ∈ Region.ready md ops listed) (ho : ops[i]? = some o) (hsz : listed.size = ops.size) :
    ∃ pre post, unlU U listed = pre ++ i :: post ∧ unlU U (listed.setIfInBounds i true) = pre ++ post ∧ (∀ p ∈ pre, pos p < pos i) ∧ (∀ p ∈ post, pos i < pos p) ∧ (∀ p ∈ pre, ∀ op, ops[p]? = some op → op.apart ops o = true) := by
 obtain ⟨hun, o', ho', hall⟩ := mem_ready.1 hi
 obtain rfl : o' = o := Option.some.inj (ho'.symm.trans ho)
 have hlt : i < ops.size := (Array.getElem?_eq_some_iff.1 ho).1
 have hmem : i ∈ unlU U listed := mem_unlU.2 ⟨(ok.mem _).2 hlt, hun⟩
 obtain ⟨pre, post, hsplit⟩ := List.append_of_mem hmem
 have hpw : (unlU U listed).Pairwise (fun x y => pos x < pos y) := List.Pairwise.filter _ ok.pw
 rw [hsplit] at hpw
 have hpre : ∀ p ∈ pre, pos p < pos i := fun p hp => (List.pairwise_append.1 hpw).2.2 p hp i List.mem_cons_self
 have hpost : ∀ p ∈ post, pos i < pos p := fun p hp => (List.pairwise_cons.1 (List.pairwise_append.1 hpw).2.1).1 p hp
 have hunp : ∀ p ∈ pre, listed.getD p true = false := fun p hp => (mem_unlU.1 (by rw [hsplit]; exact List.mem_append_left _ hp)).2
 refine ⟨pre, post, hsplit, ?_, hpre, hpost, ?_⟩
 ·exact tl36 _
 ·intro p hp op hop
  rcases ok.apart i o' p op ho hop (hpre p hp) with ⟨e, he, hb, hon⟩ | h1
  ·have h2 := hall e he hb
   rw [hon, getD_both (hunp p hp)] at h2
   cases h2
  ·exact h1
theorem not_descend {listed : Array Bool} {i : Nat} (hcl : ∀ j oj, ops[j]? = some oj → listed.getD j false = true → ∀ e ∈ oj.after, Region.binds md e = true → listed.getD e.on false = true)
    (hi : i ∈ Region.ready md ops listed) : ∀ j, j ≠ i → listed.getD j true = false → i ∉ descendB md ops j ops.size := by
 obtain ⟨hun, o, ho, hall⟩ := mem_ready.1 hi
 exact tl20 _
theorem stepU_E (ok : MixOkU md ops E U pos free) {n : Nat} {listed : Array Bool} {i : Nat} {o : Oper} {a : Act} {w : World} (hi : i ∈ Region.ready md ops listed) (ho : ops[i]? = some o) (hsz : listed.size = ops.size)
    (hcl : ∀ j oj, ops[j]? = some oj → listed.getD j false = true → ∀ e ∈ oj.after, Region.binds md e = true → listed.getD e.on false = true)
    (hC : ∀ j ∈ unlU U listed, E.contains j = false → C w) (hE : E.contains i = true) (hne : ∀ p ∈ unlU U listed, pos p < pos i → E.contains p = false)
    (h : wpMixI P md ops C E R (unlU U listed) a w)
    (keep : ∀ a' w', (∀ j ∈ unlU U (listed.setIfInBounds i true), E.contains j = false → C w') → wpMixI P md ops C E R (unlU U (listed.setIfInBounds i true)) a' w' → wpAny P md ops Q n (listed.setIfInBounds i true) a' w') :
    wpOp P ops Q i (fun a' w' => wpAny P md ops Q n (listed.setIfInBounds i true) a' w') a w := by
 obtain ⟨pre, post, hsplit, hu', hpre, hpost, hap⟩ := unlU_set ok hi ho hsz
 rw [hsplit] at h
 have hmemi : ∀ j ∈ pre ++ post, j ∈ unlU U listed ∧ j ≠ i := by
  intro j hj
  rw [hsplit]
  rcases List.mem_append.1 hj with hj | hj
  ·exact ⟨List.mem_append_left _ hj, by have := hpre j hj; intro e; subst e; omega⟩
  ·exact ⟨List.mem_append_right _ (List.mem_cons_of_mem _ hj), by have := hpost j hj; intro e; subst e; omega⟩
 unfold wpOp
 simp only [ho]
 rcases mix_pickB ok.sel ho hE post pre a w hap (fun p hp => hne p (hmemi p (List.mem_append_left _ hp)).1 (hpre p hp)) h with ⟨h1, h2⟩ | ⟨h1, h2⟩
 ·simp only [h1, if_true]
  left
  refine wp_noExit (Oper.wp_mono (fun a' w' hh => keep a' w' (fun j hj hEj => hh.1 ?_) (by rw [hu']; exact hh.2)) h2)
  rw [hu'] at hj
  obtain ⟨hm, hji⟩ := hmemi j hj
  obtain ⟨hmU, hjl⟩ := mem_unlU.1 hm
  unfold openB
  refine List.any_eq_true.2 ⟨j, List.mem_range.2 ((ok.mem _).1 hmU), ?_⟩
  have := not_descend hcl hi j hji hjl
  rw [hEj]
  simp [this]
 ·simp only [h1, Bool.false_eq_true, if_false]
  refine keep _ _ (fun j hj hEj => hC j ?_ hEj) (by rw [hu']; exact h2)
  rw [hu'] at hj
  exact (hmemi j hj).1
theorem stepU_plain (ok : MixOkU md ops E U pos free) {listed : Array Bool} {i : Nat} {o : Oper} {a : Act} {w : World} (hi : i ∈ Region.ready md ops listed) (ho : ops[i]? = some o) (hsz : listed.size = ops.size)
    (hC : ∀ j ∈ unlU U listed, E.contains j = false → C w) (hE : E.contains i = false) (h : wpMixI P md ops C E R (unlU U listed) a w) :
    C w ∧ ∃ v, YieldsIn P ops C o v a ∧ wpMixI P md ops C E R (unlU U (listed.setIfInBounds i true)) (a.put o.dst v) w := by
 obtain ⟨pre, post, hsplit, hu', hpre, hpost, hap⟩ := unlU_set ok hi ho hsz
 have hlt : i < ops.size := (Array.getElem?_eq_some_iff.1 ho).1
 have hCw := hC i (by rw [hsplit]; exact List.mem_append_right _ List.mem_cons_self) hE
 rw [hsplit] at h
 have hopen : ∀ p ∈ pre, E.contains p = true → openB md ops E p = true := by
  exact tl38 _
 obtain ⟨v, hy, hr⟩ := mix_pickA ok.sel ho hE (ok.plain i o ho hE) post pre a w hap hopen hCw h
 exact ⟨hCw, v, hy, by rw [hu']; exact hr⟩
def freeP (x y p i : Nat) : Bool := (p == x && i == y) || (p == y && i == x)
theorem freeP_left {x y p i : Nat} (h : p ≠ x ∧ i ≠ x) : freeP x y p i = false := by
 unfold freeP; simp [h.1, h.2]
theorem freeP_right {x y p i : Nat} (h : p ≠ y ∧ i ≠ y) : freeP x y p i = false := by
 unfold freeP; simp [h.1, h.2]
theorem mix2o_any {U1 U2 : List Nat} {pos1 pos2 : Nat → Nat} {x y : Nat} (oa : MixOkU md ops E U1 pos1 (freeP x y)) (ob : MixOkU md ops E U2 pos2 (freeP x y)) (hxy : x ≠ y) (hxs : x < ops.size) (hys : y < ops.size) (hx : E.contains x = true) (hy : E.contains y = true)
    (hp1 : pos1 x < pos1 y) (hp2 : pos2 y < pos2 x) (late : ∀ e, e < ops.size → E.contains e = true → e ≠ x → e ≠ y → e ∈ descendB md ops x ops.size ∧ e ∈ descendB md ops y ops.size) :
    ∀ (n : Nat) (listed : Array Bool) (a : Act) (w : World), (unlU U1 listed).length ≤ n → (unlU U2 listed).length ≤ n → listed.size = ops.size → listed.getD x true = false → listed.getD y true = false →
    (∀ j oj, ops[j]? = some oj → listed.getD j false = true → ∀ e ∈ oj.after, Region.binds md e = true → listed.getD e.on false = true) →
    (∀ j, j < ops.size → listed.getD j true = false → E.contains j = false → C w) → wpMixI P md ops C E (fun a w => Q .normal a w) (unlU U1 listed) a w → wpMixI P md ops C E (fun a w => Q .normal a w) (unlU U2 listed) a w → wpAny P md ops Q n listed a w := by
 intro n
 induction n with
 | zero =>
  intro listed a w hlen _ _ hlx _ _ _ _ _
  have : x ∈ unlU U1 listed := mem_unlU.2 ⟨(oa.mem _).2 hxs, hlx⟩
  rw [List.eq_nil_of_length_eq_zero (Nat.le_zero.1 hlen)] at this
  cases this
 | succ n ih =>
  intro listed a w hlen hlen2 hsz hlx hly hcl hC h1 h2
  have hC1 : ∀ j ∈ unlU U1 listed, E.contains j = false → C w := fun j hj hE => hC j ((oa.mem _).1 (mem_unlU.1 hj).1) (mem_unlU.1 hj).2 hE
  have hC2 : ∀ j ∈ unlU U2 listed, E.contains j = false → C w := fun j hj hE => hC j ((ob.mem _).1 (mem_unlU.1 hj).1) (mem_unlU.1 hj).2 hE
  refine ⟨fun hr => ?_, fun i hi => ?_⟩
  ·exfalso
   cases hu : unlU U1 listed with
   | nil =>
    have : x ∈ unlU U1 listed := mem_unlU.2 ⟨(oa.mem _).2 hxs, hlx⟩
    rw [hu] at this; cases this
   | cons i0 U0 =>
    have hi0 : i0 ∈ unlU U1 listed := by rw [hu]; exact List.mem_cons_self
    obtain ⟨hlt0, hun⟩ := mem_unlU.1 hi0
    have hlt := (oa.mem _).1 hlt0
    have hpw : (unlU U1 listed).Pairwise (fun x y => pos1 x < pos1 y) := List.Pairwise.filter _ oa.pw
    rw [hu, List.pairwise_cons] at hpw
    have : i0 ∈ Region.ready md ops listed := by
     refine mem_ready.2 ⟨hun, ops[i0], by simp [hlt], fun e he hb => ?_⟩
     have hon := oa.topo i0 ops[i0] (by simp [hlt]) e he hb
     have hop := oa.topoP i0 ops[i0] (by simp [hlt]) e he hb
     cases hl : listed.getD e.on false with
     | true => rfl
     | false =>
      have hm : e.on ∈ unlU U1 listed := mem_unlU.2 ⟨(oa.mem _).2 (by omega), getD_in (by omega) hl⟩
      exact tl35 _
    rw [hr] at this; cases this
  ·obtain ⟨hun, o, ho, hall⟩ := mem_ready.1 hi
   have hlt : i < ops.size := (Array.getElem?_eq_some_iff.1 ho).1
   have hsz' : (listed.setIfInBounds i true).size = ops.size := by simp [hsz]
   have hcl' : ∀ j oj, ops[j]? = some oj → (listed.setIfInBounds i true).getD j false = true → ∀ e ∈ oj.after, Region.binds md e = true → (listed.setIfInBounds i true).getD e.on false = true := by
    exact tl12 _
   have hset : ∀ j, (listed.setIfInBounds i true).getD j true = false → listed.getD j true = false ∧ j ≠ i := by
    intro j hj
    by_cases hij : i = j
    ·subst hij
     have : (listed.setIfInBounds i true).getD i true = true := by
      have : i < listed.size := by omega
      simp [this]
     rw [this] at hj; cases hj
    ·rw [getD_set_ne true hij] at hj
     exact ⟨hj, fun e => hij e.symm⟩
   have hlenU : ∀ {U : List Nat} {pos : Nat → Nat}, MixOkU md ops E U pos (freeP x y) → (unlU U listed).length ≤ n + 1 → (unlU U (listed.setIfInBounds i true)).length ≤ n := by
    intro U pos ok hl
    obtain ⟨pre, post, e1, e2, _⟩ := unlU_set ok hi ho hsz
    rw [e2]; rw [e1] at hl; simp at hl ⊢; omega
   have hnot := not_descend hcl hi
   by_cases hix : i = x
   ·subst hix
    refine stepU_E oa hi ho hsz hcl hC1 hx (fun p hp hpp => ?_) h1 (fun a' w' hc hh => ?_)
    ·cases hEp : E.contains p with
     | false => rfl
     | true =>
      obtain ⟨hpU, hpl⟩ := mem_unlU.1 hp
      by_cases hpy : p = y
      ·subst hpy; omega
      ·have := descend_pos oa.topoP i _ p (late p ((oa.mem _).1 hpU) hEp (fun e => by subst e; omega) hpy).1
       omega
    ·refine mixU_any oa n _ a' w' (hlenU oa hlen) hsz' ?_ hcl' hc hh
     intro p hp q hq
     exact freeP_left ⟨(hset p (mem_unlU.1 hp).2).2, (hset q (mem_unlU.1 hq).2).2⟩
   ·by_cases hiy : i = y
    ·subst hiy
     refine stepU_E ob hi ho hsz hcl hC2 hy (fun p hp hpp => ?_) h2 (fun a' w' hc hh => ?_)
     ·cases hEp : E.contains p with
      | false => rfl
      | true =>
       obtain ⟨hpU, hpl⟩ := mem_unlU.1 hp
       by_cases hpx : p = x
       ·subst hpx; omega
       ·have := descend_pos ob.topoP i _ p (late p ((ob.mem _).1 hpU) hEp hpx (fun e => by subst e; omega)).2
        omega
     ·refine mixU_any ob n _ a' w' (hlenU ob hlen2) hsz' ?_ hcl' hc hh
      intro p hp q hq
      exact freeP_right ⟨(hset p (mem_unlU.1 hp).2).2, (hset q (mem_unlU.1 hq).2).2⟩
    ·cases hE : E.contains i with
     | true => exact absurd (late i hlt hE hix hiy).1 (hnot x (fun e => hix e.symm) hlx)
     | false =>
      obtain ⟨hCw, v, hv, hr1⟩ := stepU_plain oa hi ho hsz hC1 hE h1
      obtain ⟨_, v2, hv2, hr2⟩ := stepU_plain ob hi ho hsz hC2 hE h2
      have hvv : v = v2 := YieldsIn.one (oa.plain i o ho hE) hCw hv hv2
      subst hvv
      refine wpOp_of_yields ho (oa.plain i o ho hE) hCw hv (ih _ _ _ (hlenU oa hlen) (hlenU ob hlen2) hsz' ?_ ?_ hcl' (fun j hj hjl hEj => hC j hj (hset j hjl).1 hEj) hr1 hr2)
      ·rw [getD_set_ne true (fun e => hix e)]; exact hlx
      ·rw [getD_set_ne true (fun e => hiy e)]; exact hly
def okUB (md : Region.Mode) (ops : Array Oper) (E : List Nat) (pos : Nat → Nat) (x y : Nat) : Bool :=
  Region.noSelect ops && (List.range ops.size).all fun i => match ops[i]? with
    | none => true
    | some o => o.after.all (fun e => !Region.binds md e || (decide (e.on < i) && decide (pos e.on < pos i))) && (E.contains i || plainOp o) &&
      (List.range ops.size).all fun p => match ops[p]? with
        | none => true
        | some op => !decide (pos p < pos i) || ((o.after.any (fun e => Region.binds md e && e.on == p) || op.apart ops o) &&
          (!(E.contains p && E.contains i) || freeP x y p i || (descendB md ops p ops.size).contains i))
theorem okUB_ok {x y : Nat} (h : okUB md ops E pos x y = true) (mem : ∀ i, i ∈ U ↔ i < ops.size) (pw : U.Pairwise (fun a b => pos a < pos b)) : MixOkU md ops E U pos (freeP x y) := by
 unfold okUB at h
 simp only [Bool.and_eq_true, List.all_eq_true, List.mem_range] at h
 obtain ⟨hs, h⟩ := h
 have lt : ∀ i o, ops[i]? = some o → i < ops.size := fun i o ho => (Array.getElem?_eq_some_iff.1 ho).1
 have get : ∀ i o, ops[i]? = some o → _ := fun i o ho => by
  have := h i (lt i o ho)
  simp only [ho, Bool.and_eq_true] at this
  exact this
 have both : ∀ i o, ops[i]? = some o → ∀ e ∈ o.after, Region.binds md e = true → e.on < i ∧ pos e.on < pos i := by
  intro i o ho e he hb
  have := Array.all_eq_true'.1 (get i o ho).1.1 e he
  simpa [hb] using this
 have prs : ∀ i o p op, ops[i]? = some o → ops[p]? = some op → pos p < pos i → ((o.after.any (fun e => Region.binds md e && e.on == p) || op.apart ops o) &&
         (!(E.contains p && E.contains i) || freeP x y p i || (descendB md ops p ops.size).contains i)) = true := by
  intro i o p op ho hp hlt
  have := List.all_eq_true.1 (get i o ho).2 p (List.mem_range.2 (lt p op hp))
  simp only [hp, hlt, decide_true, Bool.not_true, Bool.false_or] at this
  exact this
 refine ⟨Region.noSelect_spec hs, mem, pw, fun i o ho e he hb => (both i o ho e he hb).1, fun i o ho e he hb => (both i o ho e he hb).2, ?_, ?_, ?_⟩
 ·intro i o ho hE
  have := (get i o ho).1.2
  rwa [hE, Bool.false_or] at this
 ·intro i o p op ho hp hlt
  have := prs i o p op ho hp hlt
  simp only [Bool.and_eq_true, Bool.or_eq_true] at this
  exact tl2 _
 ·intro i o p op ho hp hlt h1 h2 hf
  have := prs i o p op ho hp hlt
  simp only [Bool.and_eq_true] at this
  have h3 := this.2
  rw [h1, h2, hf] at h3
  simpa using h3
def swapPos (i1 i2 i3 j : Nat) : Nat := if j < i1 then j else if j < i2 then j + (i3 - i2) else if j < i3 then j - (i2 - i1) else j
def swapSeq (i1 i2 i3 n : Nat) : List Nat := List.range' 0 i1 ++ (List.range' i2 (i3 - i2) ++ (List.range' i1 (i2 - i1) ++ List.range' i3 (n - i3)))
theorem pw_seg (f : Nat → Nat) (k m : Nat) (h : ∀ a b, k ≤ a → a < b → b < k + m → f a < f b) : (List.range' k m).Pairwise (fun a b => f a < f b) := by
 refine List.Pairwise.imp_of_mem (fun {a b} ha hb hab => ?_) (List.pairwise_lt_range' (s := k) (n := m))
 have h1 := List.mem_range'_1.1 ha
 have h2 := List.mem_range'_1.1 hb
 exact h a b h1.1 hab h2.2
theorem swap_mem {i1 i2 i3 n : Nat} (h1 : i1 ≤ i2) (h2 : i2 ≤ i3) (h3 : i3 ≤ n) (i : Nat) : i ∈ swapSeq i1 i2 i3 n ↔ i < n := by
 simp only [swapSeq, List.mem_append, List.mem_range'_1]
 omega
theorem swap_pw {i1 i2 i3 n : Nat} (h1 : i1 ≤ i2) (h2 : i2 ≤ i3) (h3 : i3 ≤ n) : (swapSeq i1 i2 i3 n).Pairwise (fun a b => swapPos i1 i2 i3 a < swapPos i1 i2 i3 b) := by
 have fA : ∀ a, a < i1 → swapPos i1 i2 i3 a = a := fun a h => if_pos h
 have fB : ∀ a, i1 ≤ a → a < i2 → swapPos i1 i2 i3 a = a + (i3 - i2) := fun a h h' => by unfold swapPos; rw [if_neg (by omega), if_pos h']
 have fC : ∀ a, i2 ≤ a → a < i3 → swapPos i1 i2 i3 a = a - (i2 - i1) := fun a h h' => by unfold swapPos; rw [if_neg (by omega), if_neg (by omega), if_pos h']
 have fD : ∀ a, i3 ≤ a → swapPos i1 i2 i3 a = a := fun a h => by unfold swapPos; rw [if_neg (by omega), if_neg (by omega), if_neg (by omega)]
 unfold swapSeq
 refine List.pairwise_append.2 ⟨pw_seg _ _ _ (fun a b h h' h'' => by rw [fA a (by omega), fA b (by omega)]; exact h'), List.pairwise_append.2 ⟨pw_seg _ _ _ (fun a b h h' h'' => by rw [fC a (by omega) (by omega), fC b (by omega) (by omega)]; omega),
  List.pairwise_append.2 ⟨pw_seg _ _ _ (fun a b h h' h'' => by rw [fB a (by omega) (by omega), fB b (by omega) (by omega)]; omega), pw_seg _ _ _ (fun a b h h' h'' => by rw [fD a (by omega), fD b (by omega)]; exact h'), ?_⟩, ?_⟩, ?_⟩
 ·intro a ha b hb
  have h1 := List.mem_range'_1.1 ha
  have h2 := List.mem_range'_1.1 hb
  rw [fB a (by omega) (by omega), fD b (by omega)]; omega
 ·intro a ha b hb
  have h1 := List.mem_range'_1.1 ha
  rcases List.mem_append.1 hb with hb | hb
  ·have h2 := List.mem_range'_1.1 hb
   rw [fC a (by omega) (by omega), fB b (by omega) (by omega)]; omega
  ·have h2 := List.mem_range'_1.1 hb
   rw [fC a (by omega) (by omega), fD b (by omega)]; omega
 ·intro a ha b hb
  have h1 := List.mem_range'_1.1 ha
  rw [fA a (by omega)]
  rcases List.mem_append.1 hb with hb | hb
  ·have h2 := List.mem_range'_1.1 hb
   rw [fC b (by omega) (by omega)]; omega
  ·rcases List.mem_append.1 hb with hb | hb
   ·have h2 := List.mem_range'_1.1 hb
    rw [fB b (by omega) (by omega)]; omega
   ·have h2 := List.mem_range'_1.1 hb
    rw [fD b (by omega)]; omega
def swapB (md : Region.Mode) (ops : Array Oper) (E : List Nat) (i1 i2 i3 x y : Nat) : Bool :=
  okUB md ops E (fun j => j) x y && okUB md ops E (swapPos i1 i2 i3) x y && decide (i1 ≤ x) && decide (x < i2) && decide (i2 ≤ y) && decide (y < i3) && decide (i3 ≤ ops.size) && E.contains x && E.contains y &&
    (List.range ops.size).all fun e => !E.contains e || e == x || e == y || ((descendB md ops x ops.size).contains e && (descendB md ops y ops.size).contains e)
theorem wpMixI_append : ∀ (us bs : List Nat) (a : Act) (w : World), wpMixI P md ops C E (fun a w => wpMixI P md ops C E R bs a w) us a w → wpMixI P md ops C E R (us ++ bs) a w
  | [], _, _, _, h => h
  | i :: us, bs, a, w, h => by
    have IH := wpMixI_append us bs
    cases ho : ops[i]? with
    | none =>
      rw [mix_none ho] at h
      rw [List.cons_append, mix_none ho]
      exact IH a w h
    | some o =>
      rw [mix_cons ho] at h
      rw [List.cons_append, mix_cons ho]
      split
      · rename_i hw
        rw [if_pos hw] at h
        split
        · rename_i hE
          rw [if_pos hE] at h
          exact Oper.wp_mono (fun a' w' hh => ⟨hh.1, IH _ _ hh.2⟩) h
        · rename_i hE
          rw [if_neg hE] at h
          exact Oper.quiet_mono (fun a' hh => IH _ _ hh) h
      · rename_i hw
        rw [if_neg hw] at h
        exact IH _ _ h
theorem wpMixI_mono {R' : Act → World → Prop} (hR : ∀ a w, R a w → R' a w) : ∀ (U : List Nat) (a : Act) (w : World), wpMixI P md ops C E R U a w → wpMixI P md ops C E R' U a w
  | [], a, w, h => hR a w h
  | i :: U, a, w, h => by
    have IH := wpMixI_mono hR U
    cases ho : ops[i]? with
    | none => rw [mix_none ho] at h ⊢; exact IH a w h
    | some o =>
      rw [mix_cons ho] at h ⊢
      split
      · rename_i hw
        rw [if_pos hw] at h
        split
        · rename_i hE
          rw [if_pos hE] at h
          exact Oper.wp_mono (fun a' w' hh => ⟨hh.1, IH _ _ hh.2⟩) h
        · rename_i hE
          rw [if_neg hE] at h
          exact Oper.quiet_mono (fun a' hh => IH _ _ hh) h
      · rename_i hw
        rw [if_neg hw] at h
        exact IH _ _ h
theorem seg_of {l : List Oper} (k m : Nat) (hk : k + m ≤ l.length) {Q' : Exit → Act → World → Prop} {a : Act} {w : World} (h : wpMix P l.toArray C E Q' k ((l.drop k).take m) a w) : wpMixI P .any l.toArray C E (fun a w => Q' .normal a w) (List.range' k m) a w := by
 have e : ((l.drop k).take m).length = m := by simp; omega
 have := wpMixI_of_wpMix ((l.drop k).take m) k a w (fun j hj => by
  rw [e] at hj
  rw [List.getElem?_take, if_pos hj, List.getElem?_drop]
  simp) h
 rwa [e] at this
theorem wp_region_mix_swap {id : Nat} {a : Act} {w : World} {l : List Oper} (E : List Nat) (C : World → Prop) (i1 i2 i3 x y : Nat) (hm : P.follows .mixedOrders = true) (hB : swapB .any l.toArray E i1 i2 i3 x y = true) (hC : C w.drew)
    (h1 : wpMix P l.toArray C E Q 0 l a w.drew)
    (h2 : wpMix P l.toArray C E (fun _ a w => wpMix P l.toArray C E (fun _ a w => wpMix P l.toArray C E (fun _ a w => wpMix P l.toArray C E Q i3 (l.drop i3) a w) i1 ((l.drop i1).take (i2 - i1)) a w) i2 ((l.drop i2).take (i3 - i2)) a w) 0 ((l.drop 0).take i1) a w.drew) :
    (Code.region id l.toArray true).wp P Q a w := by
 unfold swapB at hB
 simp only [Bool.and_eq_true, decide_eq_true_eq, List.all_eq_true, List.mem_range] at hB
 obtain ⟨⟨⟨⟨⟨⟨⟨⟨⟨ha, hb⟩, q1⟩, q2⟩, q3⟩, q4⟩, q5⟩, hx⟩, hy⟩, hl⟩ := hB
 have hsz : l.toArray.size = l.length := by simp
 rw [hsz] at q5
 have oa := okUB_ok (U := List.range' 0 l.length) ha (fun i => by rw [List.mem_range'_1, hsz]; omega) (pw_seg _ _ _ (fun a b _ h _ => h))
 have ob := okUB_ok (U := swapSeq i1 i2 i3 l.length) hb (fun i => by rw [hsz]; exact swap_mem (by omega) (by omega) q5 i) (swap_pw (by omega) (by omega) q5)
 have hu1 : unlU (List.range' 0 l.length) (Array.replicate l.toArray.size false) = List.range' 0 l.length := by
  unfold unlU
  rw [List.filter_eq_self.2]
  intro i hi
  have hi' : i < l.length := by have := List.mem_range'_1.1 hi; omega
  simp [hi']
 have hu2 : unlU (swapSeq i1 i2 i3 l.length) (Array.replicate l.toArray.size false) = swapSeq i1 i2 i3 l.length := by
  unfold unlU
  rw [List.filter_eq_self.2]
  intro i hi
  have hi' : i < l.length := (swap_mem (by omega) (by omega) q5 i).1 hi
  simp [hi']
 refine wp_region_any hm (mix2o_any (C := C) (E := E) oa ob (by omega) (by rw [hsz]; omega) (by rw [hsz]; omega) hx hy (by omega) ?_ ?_ _ _ a _ ?_ ?_ (by simp) ?_ ?_ ?_ ?_ ?_ ?_)
 ·show swapPos i1 i2 i3 y < swapPos i1 i2 i3 x
  unfold swapPos
  rw [if_neg (by omega), if_neg (by omega), if_pos (by omega), if_neg (by omega), if_pos (by omega)]
  omega
 ·intro e he hE hex hey
  have := hl e he
  simp only [hE, Bool.not_true, Bool.false_or, Bool.or_eq_true, beq_iff_eq, Bool.and_eq_true, List.contains_iff_mem] at this
  rcases this with (h | h) | h
  ·exact absurd h hex
  ·exact absurd h hey
  ·exact h
 ·rw [hu1]; simp
 ·rw [hu2]; simp [swapSeq]; omega
 ·have : x < l.length := by omega
  simp [this]
 ·have : y < l.length := by omega
  simp [this]
 ·intro j oj _ hl
  rw [getD_replicate_false] at hl; cases hl
 ·intro _ _ _ _; exact hC
 ·rw [hu1]
  exact wpMixI_of_wpMix l 0 a _ (fun j hj => by simp) h1
 ·rw [hu2]
  refine wpMixI_append _ _ _ _ (wpMixI_mono (fun a w h => wpMixI_append _ _ _ _ (wpMixI_mono (fun a w h => wpMixI_append _ _ _ _ (wpMixI_mono (fun a w h => seg_of i3 (l.length - i3) (by omega) (by rw [List.take_of_length_le (by simp)]; exact h)) _ _ _ (seg_of i1 (i2 - i1) (by omega) h))) _ _ _ (seg_of i2 (i3 - i2) (by omega) h))) _ _ _ (seg_of 0 i1 (by omega) h2))
end Mix3
end Go.Proofs.YtobgbilanibodaaGreat
