
/- A region that draws its order, in which a few operations act on memory in a forced order of their own and all others only compute or load what those do not change: one walk in the order of the text serves every order. -/
import Derived.Test.YtdgjopejocfbeaaBase
import Derived.StillTail
namespace Go.Proofs.Ytdgjopejocfbeaa
open Go.RowKit

section Mix
variable {P : Program} {ops : Array Oper} {C : World → Prop} {Q : Exit → Act → World → Prop} {md : Region.Mode} {E : List Nat} {R : Act → World → Prop}

/-- An operation that only computes or loads. -/
def plainOp (o : Oper) : Bool :=
  match o.op with
  | .move _ | .assign _ | .pick .. | .load .. | .nilCheck _ | .binOp .. | .unOp .. | .convert .. | .slice .. | .fieldAddr .. | .field .. | .indexAddr .. | .index .. | .extract .. | .build .. => true
  | .call c => match c.callee with
    | .builtin b => match b with | .len | .cap | .max | .min => true | _ => false
    | _ => false
  | _ => false

theorem value_no_enter (s : Sem Value) (w : World) (f : FuncId) (args : Array Value) (w' : World) : ((do pure (Next.value (← s)) : Sem Next)).run P w ≠ .ok (.enter f args) w' := by
  simp only [Sem.run_bind, Sem.run_pure]
  cases s.run P w <;> simp [Result.andThen]

theorem plain_no_enter {o : Oper} (h : plainOp o = true) (ρ : Operand → Value) (w : World) (f : FuncId) (args : Array Value) (w' : World) : (execOp ρ o).run P w ≠ .ok (.enter f args) w' := by
  unfold plainOp at h
  unfold execOp
  cases ho : o.op <;> simp only [ho] at h ⊢ <;> first | exact value_no_enter _ _ _ _ _ | cases h | skip
  case move => simp
  case assign => simp
  case pick c x y =>
    simp only [Sem.run_bind, Sem.run_pure]
    cases (asBool (ρ c)).run P w <;> simp [Result.andThen]
  case nilCheck x =>
    have hp : (runtimePanic .nilDeref : Sem Next).run P w ≠ .ok (.enter f args) w' := by
      simp [runtimePanic, goPanic, program, Sem.run]
    split <;> try exact hp
    · split <;> try exact hp
      · simp only [Sem.run_bind]
        intro hh
        generalize (Sem.run P program w) = r at hh
        cases r with
        | halt _ _ => simp [Result.andThen] at hh
        | ok pr w1 =>
          simp only [Result.andThen_ok] at hh
          generalize (Sem.run P (nilAhead _ _ _ _) w1) = r2 at hh
          cases r2 with
          | halt _ _ => simp [Result.andThen] at hh
          | ok q w2 =>
            simp only [Result.andThen_ok] at hh
            split at hh <;> simp [unsupported, Sem.run, Result.andThen] at hh
      · simp
    · simp
  case call c =>
    cases hc : c.callee <;> simp only [hc] at h <;> try cases h
    case builtin b =>
      cases b <;> simp only [] at h <;> try cases h
      all_goals
        simp only [resolve, hc, Sem.run_bind, Sem.run_pure, Result.andThen_ok, invoke, builtin]
        generalize Sem.run P _ w = r
        cases r <;> simp [Result.andThen]

/-- No way out but the ordinary one. -/
def noExit : Exit → Act → World → Prop := fun _ _ _ => False

def descendB (md : Region.Mode) (ops : Array Oper) (i : Nat) : Nat → List Nat
  | 0 => []
  | n + 1 =>
    let d := descendB md ops i n
    if n == i || ((ops[n]?).map fun o => o.after.any fun e => Region.binds md e && d.contains e.on).getD false then n :: d else d

/-- Behind operation i an operation that only loads may still be to come. -/
def openB (md : Region.Mode) (ops : Array Oper) (E : List Nat) (i : Nat) : Bool :=
  (List.range ops.size).any fun j => !E.contains j && !(descendB md ops j ops.size).contains i

/-- The walk in the order of the text, over the numbers of the operations that are left. -/
def wpMixI (P : Program) (md : Region.Mode) (ops : Array Oper) (C : World → Prop) (E : List Nat) (R : Act → World → Prop) : List Nat → Act → World → Prop
  | [], a, w => R a w
  | i :: U, a, w =>
    match ops[i]? with
    | none => wpMixI P md ops C E R U a w
    | some o =>
      if Region.wanted o (yielded ops a.tmps) then
        if E.contains i then o.wp P a w (fun a' w' => (openB md ops E i = true → C w') ∧ wpMixI P md ops C E R U a' w') noExit
        else o.quiet P a C (fun a' => wpMixI P md ops C E R U a' w)
      else wpMixI P md ops C E R U (a.put o.dst undef) w

theorem wp_noExit {o : Oper} {a : Act} {w : World} {K : Act → World → Prop} (h : o.wp P a w K noExit) : o.wp P a w K Q := by
  unfold Oper.wp at *
  generalize (execOp a.eval o).run P w = r at *
  cases r with
  | ok n w' =>
    cases n <;> simp only [Oper.upon] at h ⊢ <;> try exact h
    exact Calls.mono h (fun e w'' he => by cases e <;> first | exact he | exact he.elim | exact (let ⟨_, _, hh⟩ := he; hh.elim))
  | halt x w' => cases x <;> simp only [Oper.upon] at h ⊢ <;> exact h.elim

/-- What operation o may leave of a frame. -/
def Leaves (o : Oper) (a a' : Act) : Prop := ∃ u ds, a' = ({ a with defers := ds } : Act).put o.dst u

theorem wp_some {o : Oper} {a : Act} {w : World} {K : Act → World → Prop} (h : o.wp P a w K noExit) : ∃ a' w', Leaves o a a' ∧ K a' w' := by
  unfold Oper.wp at h
  generalize (execOp a.eval o).run P w = r at h
  cases r with
  | ok n w' =>
    cases n <;> simp only [Oper.upon] at h <;> try exact h.elim
    case value v => exact ⟨_, _, ⟨v, a.defers, rfl⟩, h⟩
    case skip => exact ⟨_, _, ⟨undef, a.defers, rfl⟩, h⟩
    case defer d => exact ⟨_, _, ⟨undef, d :: a.defers, rfl⟩, h⟩
    case enter f args =>
      obtain ⟨e, w'', fr, hR, _⟩ := h []
      cases e with
      | returned v => exact ⟨_, _, ⟨v, a.defers, rfl⟩, hR⟩
      | panicked c => exact hR.elim
      | outgrown => obtain ⟨_, _, hh⟩ := hR; exact hh.elim
    case row row args =>
      obtain ⟨v, w'', hR, _⟩ := h default []
      exact ⟨_, _, ⟨v, a.defers, rfl⟩, hR⟩
  | halt x w' => cases x <;> simp only [Oper.upon] at h <;> exact h.elim

/-- The operation, with another operation's value put into its temporary first. -/
theorem wp_shift {o : Oper} {d : Option Tmp} {v : Value} {a : Act} {w : World} {K K' : Act → World → Prop} (hsel : ∀ cs b, o.op ≠ .select cs b)
    (h1 : ∀ t, d = some t → t ∉ o.looksAt ops) (h2 : ∀ t, d = some t → o.dst ≠ some t)
    (hK : ∀ a' w', Leaves o a a' → K a' w' → K' (a'.put d v) w') (h : o.wp P a w K Q) (hQ : ∀ e a a' w, Q e a w → Q e a' w) : o.wp P (a.put d v) w K' Q := by
  unfold Oper.wp at *
  rw [execOp_put o hsel a d v h1]
  have hc : ∀ u, (a.put o.dst u).put d v = (a.put d v).put o.dst u := fun u => (Act.put_comm a v u (fun t ht => h2 t ht)).symm
  generalize (execOp a.eval o).run P w = r at *
  cases r with
  | ok n w' =>
    cases n <;> simp only [Oper.upon] at h ⊢ <;> try exact h
    case value u => rw [← hc]; exact hK _ _ ⟨u, a.defers, rfl⟩ h
    case skip => rw [← hc]; exact hK _ _ ⟨undef, a.defers, rfl⟩ h
    case defer x =>
      have hh := hK _ _ ⟨undef, x :: a.defers, rfl⟩ h
      have e1 : ({ a.put d v with defers := x :: (a.put d v).defers } : Act).put o.dst undef = (({ a with defers := x :: a.defers } : Act).put o.dst undef).put d v := by
        rw [Act.put_defers]
        exact Act.put_comm _ v undef (fun t ht => h2 t ht)
      rw [e1]; exact hh
    case enter f args =>
      exact Calls.mono h (fun e w'' he => by
        cases e with
        | returned u => show K' _ _; rw [← hc]; exact hK _ _ ⟨u, a.defers, rfl⟩ he
        | panicked c => exact hQ _ _ _ _ he
        | outgrown => exact he)
    case row row args => exact Rows.mono h (fun u w'' he => by rw [← hc]; exact hK _ _ ⟨u, a.defers, rfl⟩ he)
  | halt x w' => cases x <;> simp only [Oper.upon] at h ⊢ <;> first | exact h | exact hQ _ _ _ _ h

theorem noExit_any : ∀ (e : Exit) (a a' : Act) (w : World), noExit e a w → noExit e a' w := fun _ _ _ _ h => h

theorem Leaves.eval {o p : Oper} {a a' : Act} (h : Leaves o a a') (hsel : ∀ cs b, p.op ≠ .select cs b) (h1 : ∀ t, o.dst = some t → t ∉ p.looksAt ops) :
    execOp a'.eval p = execOp a.eval p ∧ Region.wanted p (yielded ops a'.tmps) = Region.wanted p (yielded ops a.tmps) := by
  obtain ⟨u, ds, rfl⟩ := h
  refine ⟨?_, ?_⟩
  · rw [execOp_put p hsel ({ a with defers := ds } : Act) o.dst u h1]
    rfl
  · rw [wanted_put p ({ a with defers := ds } : Act) o.dst u h1]

theorem YieldsIn.of_leaves {o p : Oper} {a a' : Act} {v : Value} (h : Leaves p a a') (hsel : ∀ cs b, o.op ≠ .select cs b) (h1 : ∀ t, p.dst = some t → t ∉ o.looksAt ops) :
    YieldsIn P ops C o v a' ↔ YieldsIn P ops C o v a := by
  obtain ⟨e1, e2⟩ := h.eval (ops := ops) hsel h1
  exact ⟨fun hy => hy.of_same e1.symm e2.symm, fun hy => hy.of_same e1 e2⟩

/-- One value, as soon as there is a world of the class. -/
theorem YieldsIn.one {o : Oper} {a : Act} {v u : Value} {w : World} (hp : plainOp o = true) (hw : C w) (h : YieldsIn P ops C o v a) (k : YieldsIn P ops C o u a) : v = u := by
  rcases h with ⟨hn, h⟩ | ⟨hn, rfl⟩
  · rcases k with ⟨_, k⟩ | ⟨kn, _⟩
    · have h' := h w hw
      have k' := k w hw
      unfold Oper.quietAt at h' k'
      have hne := plain_no_enter (P := P) hp a.eval w
      generalize (execOp a.eval o).run P w = r at h' k' hne
      cases r with
      | halt _ _ => exact h'.elim
      | ok n w' =>
        cases n <;> simp only [Oper.quietUpon] at h' k' <;> try exact h'.elim
        case value x => exact h'.2.symm.trans k'.2
        case skip => exact h'.2.trans k'.2.symm
        case enter f args => exact absurd rfl (hne f args w')
    · rw [hn] at kn; cases kn
  · rcases k with ⟨kn, _⟩ | ⟨_, rfl⟩
    · rw [hn] at kn; cases kn
    · rfl

def selFree (ops : Array Oper) : Prop := ∀ (j : Nat) (o : Oper) cs b, ops[j]? = some o → o.op ≠ .select cs b

theorem mix_cons {i : Nat} {o : Oper} {U : List Nat} {a : Act} {w : World} (ho : ops[i]? = some o) :
    wpMixI P md ops C E R (i :: U) a w = (if Region.wanted o (yielded ops a.tmps) then
        if E.contains i then o.wp P a w (fun a' w' => (openB md ops E i = true → C w') ∧ wpMixI P md ops C E R U a' w') noExit
        else o.quiet P a C (fun a' => wpMixI P md ops C E R U a' w)
      else wpMixI P md ops C E R U (a.put o.dst undef) w) := by
  rw [wpMixI]; simp only [ho]

theorem mix_none {i : Nat} {U : List Nat} {a : Act} {w : World} (ho : ops[i]? = none) : wpMixI P md ops C E R (i :: U) a w = wpMixI P md ops C E R U a w := by
  rw [wpMixI]; simp only [ho]

/-- A loading operation may be taken first. -/
theorem mix_pickA (hsel : selFree ops) {i : Nat} {o : Oper} (ho : ops[i]? = some o) (hi : E.contains i = false) (hp : plainOp o = true) (post : List Nat) :
    ∀ (pre : List Nat) (a : Act) (w : World), (∀ p ∈ pre, ∀ op, ops[p]? = some op → op.apart ops o = true) → (∀ p ∈ pre, E.contains p = true → openB md ops E p = true) →
      C w → wpMixI P md ops C E R (pre ++ i :: post) a w → ∃ v, YieldsIn P ops C o v a ∧ wpMixI P md ops C E R (pre ++ post) (a.put o.dst v) w
  | [], a, w, _, _, _, h => by
    rw [List.nil_append, mix_cons ho, hi] at h
    by_cases hw : Region.wanted o (yielded ops a.tmps) = true
    · simp only [hw, if_true, Bool.false_eq_true, if_false] at h
      obtain ⟨v, h1, h2⟩ := h
      exact ⟨v, .inl ⟨hw, h1⟩, h2⟩
    · simp only [hw, Bool.false_eq_true, if_false] at h
      exact ⟨undef, .inr ⟨by simpa using hw, rfl⟩, h⟩
  | p :: pre, a, w, hap, hop, hC, h => by
    have hap' : ∀ q ∈ pre, ∀ op, ops[q]? = some op → op.apart ops o = true := fun q hq => hap q (List.mem_cons_of_mem _ hq)
    have hop' : ∀ q ∈ pre, E.contains q = true → openB md ops E q = true := fun q hq => hop q (List.mem_cons_of_mem _ hq)
    have IH := mix_pickA hsel ho hi hp post pre
    cases hop0 : ops[p]? with
    | none =>
      rw [List.cons_append, mix_none hop0] at h
      obtain ⟨v, h1, h2⟩ := IH a w hap' hop' hC h
      exact ⟨v, h1, by rw [List.cons_append, mix_none hop0]; exact h2⟩
    | some op =>
      obtain ⟨ap1, ap2, ap3⟩ := Oper.apart_spec (hap p List.mem_cons_self op hop0)
      have so : ∀ cs b, o.op ≠ .select cs b := fun cs b => hsel i o cs b ho
      have sp : ∀ cs b, op.op ≠ .select cs b := fun cs b => hsel p op cs b hop0
      rw [List.cons_append, mix_cons hop0] at h
      have hwv : ∀ v, Region.wanted op (yielded ops (a.put o.dst v).tmps) = Region.wanted op (yielded ops a.tmps) := fun v => wanted_put op a o.dst v ap3
      have ap2' : ∀ t, o.dst = some t → op.dst ≠ some t := fun t ht hh => ap2 t hh ht
      by_cases hw : Region.wanted op (yielded ops a.tmps) = true
      · simp only [hw, if_true] at h
        cases hE : E.contains p with
        | true =>
          simp only [hE, if_true] at h
          have hopen := hop p List.mem_cons_self hE
          obtain ⟨a1, w1, hl1, hc1, hr1⟩ := wp_some h
          obtain ⟨v, hy, _⟩ := IH a1 w1 hap' hop' (hc1 hopen) hr1
          have hyv := (YieldsIn.of_leaves (P := P) (C := C) hl1 so ap1).1 hy
          refine ⟨v, hyv, ?_⟩
          rw [List.cons_append, mix_cons hop0]
          simp only [hwv, hw, if_true, hE]
          refine wp_shift (ops := ops) sp ap3 ap2' (fun a' w' hl hk => ⟨hk.1, ?_⟩) h noExit_any
          obtain ⟨u, hyu, hru⟩ := IH a' w' hap' hop' (hk.1 hopen) hk.2
          have e : u = v := YieldsIn.one hp hC ((YieldsIn.of_leaves (P := P) (C := C) hl so ap1).1 hyu) hyv
          rw [← e]; exact hru
        | false =>
          simp only [hE, Bool.false_eq_true, if_false] at h
          obtain ⟨u, hu, hr⟩ := h
          obtain ⟨v, hy, hrv⟩ := IH _ w hap' hop' hC hr
          have hyv := (YieldsIn.of_leaves (P := P) (C := C) ⟨u, a.defers, rfl⟩ so ap1).1 hy
          refine ⟨v, hyv, ?_⟩
          rw [List.cons_append, mix_cons hop0]
          simp only [hwv, hw, if_true, hE, Bool.false_eq_true, if_false]
          refine ⟨u, fun w' hw' => ?_, ?_⟩
          · have := hu w' hw'
            unfold Oper.quietAt at *
            rwa [execOp_put op sp a o.dst v ap3]
          · rw [Act.put_comm a v u (fun t ht => ap2' t ht)]; exact hrv
      · simp only [hw, Bool.false_eq_true, if_false] at h
        obtain ⟨v, hy, hrv⟩ := IH _ w hap' hop' hC h
        have hyv := (YieldsIn.of_leaves (P := P) (C := C) ⟨undef, a.defers, rfl⟩ so ap1).1 hy
        refine ⟨v, hyv, ?_⟩
        rw [List.cons_append, mix_cons hop0]
        simp only [hwv, hw, Bool.false_eq_true, if_false]
        rw [Act.put_comm a v undef (fun t ht => ap2' t ht)]; exact hrv

/-- An operation on memory may be taken before loading operations that do not wait for it. -/
theorem mix_pickB (hsel : selFree ops) {i : Nat} {o : Oper} (ho : ops[i]? = some o) (hi : E.contains i = true) (post : List Nat) :
    ∀ (pre : List Nat) (a : Act) (w : World), (∀ p ∈ pre, ∀ op, ops[p]? = some op → op.apart ops o = true) → (∀ p ∈ pre, E.contains p = false) →
      wpMixI P md ops C E R (pre ++ i :: post) a w →
      (Region.wanted o (yielded ops a.tmps) = true ∧ o.wp P a w (fun a' w' => (openB md ops E i = true → C w') ∧ wpMixI P md ops C E R (pre ++ post) a' w') noExit) ∨
      (Region.wanted o (yielded ops a.tmps) = false ∧ wpMixI P md ops C E R (pre ++ post) (a.put o.dst undef) w)
  | [], a, w, _, _, h => by
    rw [List.nil_append, mix_cons ho, hi] at h
    by_cases hw : Region.wanted o (yielded ops a.tmps) = true
    · simp only [hw, if_true] at h
      exact .inl ⟨hw, h⟩
    · simp only [hw, Bool.false_eq_true, if_false] at h
      exact .inr ⟨by simpa using hw, h⟩
  | p :: pre, a, w, hap, hne, h => by
    have hap' : ∀ q ∈ pre, ∀ op, ops[q]? = some op → op.apart ops o = true := fun q hq => hap q (List.mem_cons_of_mem _ hq)
    have hne' : ∀ q ∈ pre, E.contains q = false := fun q hq => hne q (List.mem_cons_of_mem _ hq)
    have IH := mix_pickB hsel ho hi post pre
    cases hop0 : ops[p]? with
    | none =>
      rw [List.cons_append, mix_none hop0] at h
      simpa only [List.cons_append, mix_none hop0] using IH a w hap' hne' h
    | some op =>
      obtain ⟨ap1, ap2, ap3⟩ := Oper.apart_spec (hap p List.mem_cons_self op hop0)
      have so : ∀ cs b, o.op ≠ .select cs b := fun cs b => hsel i o cs b ho
      have sp : ∀ cs b, op.op ≠ .select cs b := fun cs b => hsel p op cs b hop0
      have hE := hne p List.mem_cons_self
      have ap2' : ∀ t, o.dst = some t → op.dst ≠ some t := fun t ht hh => ap2 t hh ht
      rw [List.cons_append, mix_cons hop0] at h
      -- the value u that p leaves, whatever it is
      have go : ∀ u, wpMixI P md ops C E R (pre ++ i :: post) (a.put op.dst u) w →
          (∀ a' w', (execOp a'.eval op = execOp a.eval op ∧ Region.wanted op (yielded ops a'.tmps) = Region.wanted op (yielded ops a.tmps)) → wpMixI P md ops C E R (pre ++ post) (a'.put op.dst u) w' → wpMixI P md ops C E R (p :: pre ++ post) a' w') →
          (Region.wanted o (yielded ops a.tmps) = true ∧ o.wp P a w (fun a' w' => (openB md ops E i = true → C w') ∧ wpMixI P md ops C E R (p :: pre ++ post) a' w') noExit) ∨
          (Region.wanted o (yielded ops a.tmps) = false ∧ wpMixI P md ops C E R (p :: pre ++ post) (a.put o.dst undef) w) := by
        intro u hu hback
        have hwo : Region.wanted o (yielded ops (a.put op.dst u).tmps) = Region.wanted o (yielded ops a.tmps) := wanted_put o a op.dst u ap1
        rcases IH _ w hap' hne' hu with ⟨h1, h2⟩ | ⟨h1, h2⟩
        · refine .inl ⟨by rw [← hwo]; exact h1, ?_⟩
          unfold Oper.wp at h2 ⊢
          rw [execOp_put o so a op.dst u ap1] at h2
          have hc : ∀ x, (a.put op.dst u).put o.dst x = (a.put o.dst x).put op.dst u := fun x => Act.put_comm a u x (fun t ht => ap2 t ht)
          have same : ∀ x ds, execOp (({ a with defers := ds } : Act).put o.dst x).eval op = execOp a.eval op ∧ Region.wanted op (yielded ops (({ a with defers := ds } : Act).put o.dst x).tmps) = Region.wanted op (yielded ops a.tmps) :=
            fun x ds => Leaves.eval (o := o) ⟨x, ds, rfl⟩ sp ap3
          generalize (execOp a.eval o).run P w = r at *
          cases r with
          | ok n w' =>
            cases n <;> simp only [Oper.upon] at h2 ⊢ <;> try exact h2
            case value x => rw [hc] at h2; exact ⟨h2.1, hback _ _ (same x a.defers) h2.2⟩
            case skip => rw [hc] at h2; exact ⟨h2.1, hback _ _ (same undef a.defers) h2.2⟩
            case defer x =>
              have e1 : ({ a.put op.dst u with defers := x :: (a.put op.dst u).defers } : Act).put o.dst undef = (({ a with defers := x :: a.defers } : Act).put o.dst undef).put op.dst u := by
                rw [Act.put_defers]
                exact Act.put_comm _ u undef (fun t ht => ap2 t ht)
              rw [e1] at h2
              exact ⟨h2.1, hback _ _ (same undef (x :: a.defers)) h2.2⟩
            case enter f args =>
              exact Calls.mono h2 (fun e w'' he => by
                cases e with
                | returned x =>
                  have he' : (openB md ops E i = true → C w'') ∧ wpMixI P md ops C E R (pre ++ post) ((a.put op.dst u).put o.dst x) w'' := he
                  rw [hc] at he'
                  exact ⟨he'.1, hback _ _ (same x a.defers) he'.2⟩
                | panicked c => exact he
                | outgrown => exact he)
            case row row args => exact Rows.mono h2 (fun x w'' he => by rw [hc] at he; exact ⟨he.1, hback _ _ (same x a.defers) he.2⟩)
          | halt x w' => cases x <;> simp only [Oper.upon] at h2 ⊢ <;> exact h2
        · refine .inr ⟨by rw [← hwo]; exact h1, hback _ _ (Leaves.eval (o := o) ⟨undef, a.defers, rfl⟩ sp ap3) ?_⟩
          rw [← Act.put_comm a u undef (fun t ht => ap2 t ht)]; exact h2
      by_cases hw : Region.wanted op (yielded ops a.tmps) = true
      · simp only [hw, if_true, hE, Bool.false_eq_true, if_false] at h
        obtain ⟨u, hu, hr⟩ := h
        refine go u hr fun a' w' hs hr' => ?_
        rw [List.cons_append, mix_cons hop0]
        simp only [hs.2, hw, if_true, hE, Bool.false_eq_true, if_false]
        refine ⟨u, fun w'' hw'' => ?_, hr'⟩
        have := hu w'' hw''
        unfold Oper.quietAt at *
        rwa [hs.1]
      · simp only [hw, Bool.false_eq_true, if_false] at h
        refine go undef h fun a' w' hs hr' => ?_
        rw [List.cons_append, mix_cons hop0]
        simp only [hs.2, hw, Bool.false_eq_true, if_false]
        exact hr'

def unlB (ops : Array Oper) (listed : Array Bool) : List Nat := (List.range ops.size).filter fun i => !listed.getD i true

/-- What the kernel reckons of the region: the text's order is allowed; operations that may be exchanged do not touch each other's temporaries; those on memory come one behind the other in every order. -/
def mixB (md : Region.Mode) (ops : Array Oper) (E : List Nat) : Bool :=
  Region.noSelect ops && (List.range ops.size).all fun i => match ops[i]? with
    | none => true
    | some o => o.after.all (fun e => !Region.binds md e || decide (e.on < i)) && (E.contains i || plainOp o) &&
      (List.range i).all fun p => match ops[p]? with
        | none => true
        | some op => (o.after.any (fun e => Region.binds md e && e.on == p) || op.apart ops o) &&
          (!(E.contains p && E.contains i) || (descendB md ops p ops.size).contains i)

structure MixOk (md : Region.Mode) (ops : Array Oper) (E : List Nat) : Prop where
  sel : selFree ops
  topo : ∀ i o, ops[i]? = some o → ∀ e ∈ o.after, Region.binds md e = true → e.on < i
  plain : ∀ i o, ops[i]? = some o → E.contains i = false → plainOp o = true
  apart : ∀ i o p op, ops[i]? = some o → ops[p]? = some op → p < i → (∃ e ∈ o.after, Region.binds md e = true ∧ e.on = p) ∨ op.apart ops o = true
  chain : ∀ i o p op, ops[i]? = some o → ops[p]? = some op → p < i → E.contains p = true → E.contains i = true → i ∈ descendB md ops p ops.size

theorem mixB_ok (h : mixB md ops E = true) : MixOk md ops E := by
  unfold mixB at h
  simp only [Bool.and_eq_true, List.all_eq_true, List.mem_range] at h
  obtain ⟨hs, h⟩ := h
  have lt : ∀ i o, ops[i]? = some o → i < ops.size := fun i o ho => (Array.getElem?_eq_some_iff.1 ho).1
  have get : ∀ i o, ops[i]? = some o → _ := fun i o ho => by
    have := h i (lt i o ho)
    simp only [ho, Bool.and_eq_true] at this
    exact this
  refine ⟨Region.noSelect_spec hs, ?_, ?_, ?_, ?_⟩
  · intro i o ho e he hb
    have := Array.all_eq_true'.1 (get i o ho).1.1 e he
    simp only [hb, Bool.not_true, Bool.false_or, decide_eq_true_eq] at this
    exact this
  · intro i o ho hE
    have := (get i o ho).1.2
    rwa [hE, Bool.false_or] at this
  · intro i o p op ho hp hlt
    have := List.all_eq_true.1 (get i o ho).2 p (List.mem_range.2 hlt)
    simp only [hp, Bool.and_eq_true, Bool.or_eq_true] at this
    rcases this.1 with h1 | h1
    · obtain ⟨e, he, hb⟩ := Array.any_eq_true'.1 h1
      simp only [Bool.and_eq_true, beq_iff_eq] at hb
      exact .inl ⟨e, he, hb⟩
    · exact .inr h1
  · intro i o p op ho hp hlt h1 h2
    have := List.all_eq_true.1 (get i o ho).2 p (List.mem_range.2 hlt)
    simp only [hp, Bool.and_eq_true] at this
    have h3 := this.2
    rw [h1, h2] at h3
    simpa using h3

theorem descend_ge (ht : ∀ i o, ops[i]? = some o → ∀ e ∈ o.after, Region.binds md e = true → e.on < i) (i : Nat) : ∀ n, ∀ j ∈ descendB md ops i n, i ≤ j
  | 0, j, h => by simp [descendB] at h
  | n + 1, j, h => by
    have IH := descend_ge ht i n
    unfold descendB at h
    simp only [] at h
    split at h
    · rename_i hc
      rcases List.mem_cons.1 h with rfl | h
      · simp only [Bool.or_eq_true, beq_iff_eq] at hc
        rcases hc with rfl | hc
        · exact Nat.le_refl _
        · cases ho : ops[j]? with
          | none => simp [ho] at hc
          | some o =>
            simp only [ho, Option.map_some, Option.getD_some] at hc
            obtain ⟨e, he, hb⟩ := Array.any_eq_true'.1 hc
            simp only [Bool.and_eq_true, List.contains_iff_mem] at hb
            have h1 := ht j o ho e he hb.1
            have h2 := IH _ hb.2
            omega
      · exact IH j h
    · exact IH j h

/-- What all orders have listed once j may come up. -/
theorem descend_listed {listed : Array Bool} (hcl : ∀ j oj, ops[j]? = some oj → listed.getD j false = true → ∀ e ∈ oj.after, Region.binds md e = true → listed.getD e.on false = true) (i : Nat) :
    ∀ n, ∀ j ∈ descendB md ops i n, (listed.getD j false = true → listed.getD i false = true) ∧ (j ≠ i → (∀ oj, ops[j]? = some oj → ∀ e ∈ oj.after, Region.binds md e = true → listed.getD e.on false = true) → listed.getD i false = true)
  | 0, j, h => by simp [descendB] at h
  | n + 1, j, h => by
    have IH := descend_listed hcl i n
    unfold descendB at h
    simp only [] at h
    split at h
    · rename_i hc
      rcases List.mem_cons.1 h with rfl | h
      · simp only [Bool.or_eq_true, beq_iff_eq] at hc
        have key : (∀ oj, ops[j]? = some oj → ∀ e ∈ oj.after, Region.binds md e = true → listed.getD e.on false = true) → j ≠ i → listed.getD i false = true := by
          intro hall hne
          rcases hc with hc | hc
          · exact absurd hc hne
          · cases ho : ops[j]? with
            | none => simp [ho] at hc
            | some o =>
              simp only [ho, Option.map_some, Option.getD_some] at hc
              obtain ⟨e, he, hb⟩ := Array.any_eq_true'.1 hc
              simp only [Bool.and_eq_true, List.contains_iff_mem] at hb
              exact (IH _ hb.2).1 (hall o ho e he hb.1)
        refine ⟨fun hl => ?_, fun hne hall => key hall hne⟩
        by_cases hji : j = i
        · rw [← hji]; exact hl
        · exact key (fun oj hoj e he hb => hcl j oj hoj hl e he hb) hji
      · exact IH j h
    · exact IH j h

theorem mem_unl {listed : Array Bool} {i : Nat} : i ∈ unlB ops listed ↔ i < ops.size ∧ listed.getD i true = false := by
  simp [unlB]

theorem wpOp_of_yields {i : Nat} {o : Oper} {v : Value} {a : Act} {w : World} {K : Act → World → Prop} (ho : ops[i]? = some o) (hp : plainOp o = true) (hw : C w) (hy : YieldsIn P ops C o v a) (h : K (a.put o.dst v) w) : wpOp P ops Q i K a w := by
  unfold wpOp
  simp only [ho]
  rcases hy with ⟨hn, hy⟩ | ⟨hn, rfl⟩
  · simp only [hn, if_true]
    left
    have hy' := hy w hw
    unfold Oper.quietAt at hy'
    unfold Oper.wp
    have hne := plain_no_enter (P := P) hp a.eval w
    generalize (execOp a.eval o).run P w = r at *
    cases r with
    | halt _ _ => exact hy'.elim
    | ok n w' =>
      cases n <;> simp only [Oper.quietUpon] at hy' <;> try exact hy'.elim
      case value x => obtain ⟨rfl, rfl⟩ := hy'; exact h
      case skip => obtain ⟨rfl, rfl⟩ := hy'; exact h
      case enter f args => exact absurd rfl (hne f args w')
  · simp only [hn, Bool.false_eq_true, if_false]; exact h

theorem mix_any (ok : MixOk md ops E) : ∀ (n : Nat) (listed : Array Bool) (a : Act) (w : World), (unlB ops listed).length ≤ n → listed.size = ops.size →
    (∀ j oj, ops[j]? = some oj → listed.getD j false = true → ∀ e ∈ oj.after, Region.binds md e = true → listed.getD e.on false = true) →
    (∀ j ∈ unlB ops listed, E.contains j = false → C w) → wpMixI P md ops C E (fun a w => Q .normal a w) (unlB ops listed) a w → wpAny P md ops Q n listed a w := by
  intro n
  induction n with
  | zero =>
    intro listed a w hlen hsz hcl hC h
    have hu : unlB ops listed = [] := List.eq_nil_of_length_eq_zero (Nat.le_zero.1 hlen)
    rw [hu] at h
    refine ⟨?_, h⟩
    cases hr : Region.ready md ops listed with
    | nil => rfl
    | cons x xs =>
      have hx : x ∈ Region.ready md ops listed := by rw [hr]; exact List.mem_cons_self
      obtain ⟨h1, o, ho, _⟩ := mem_ready.1 hx
      have : x ∈ unlB ops listed := mem_unl.2 ⟨(Array.getElem?_eq_some_iff.1 ho).1, h1⟩
      rw [hu] at this; cases this
  | succ n ih =>
    intro listed a w hlen hsz hcl hC h
    refine ⟨fun hr => ?_, fun i hi => ?_⟩
    · -- nothing may come up: nothing is left
      cases hu : unlB ops listed with
      | nil => rw [hu] at h; exact h
      | cons i0 U =>
        exfalso
        have hi0 : i0 ∈ unlB ops listed := by rw [hu]; exact List.mem_cons_self
        obtain ⟨hlt, hun⟩ := mem_unl.1 hi0
        have hpw : (unlB ops listed).Pairwise (· < ·) := List.Pairwise.filter _ List.pairwise_lt_range
        rw [hu, List.pairwise_cons] at hpw
        have : i0 ∈ Region.ready md ops listed := by
          refine mem_ready.2 ⟨hun, ops[i0], by simp [hlt], fun e he hb => ?_⟩
          have hon := ok.topo i0 ops[i0] (by simp [hlt]) e he hb
          cases hl : listed.getD e.on false with
          | true => rfl
          | false =>
            have hm : e.on ∈ unlB ops listed := mem_unl.2 ⟨by omega, getD_in (by omega) hl⟩
            rw [hu] at hm
            rcases List.mem_cons.1 hm with hm | hm
            · omega
            · have := hpw.1 _ hm; omega
        rw [hr] at this; cases this
    · obtain ⟨hun, o, ho, hall⟩ := mem_ready.1 hi
      have hlt : i < ops.size := (Array.getElem?_eq_some_iff.1 ho).1
      have hmem : i ∈ unlB ops listed := mem_unl.2 ⟨hlt, hun⟩
      obtain ⟨pre, post, hsplit⟩ := List.append_of_mem hmem
      have hpw : (unlB ops listed).Pairwise (· < ·) := List.Pairwise.filter _ List.pairwise_lt_range
      rw [hsplit] at hpw
      have hpre : ∀ p ∈ pre, p < i := fun p hp => (List.pairwise_append.1 hpw).2.2 p hp i List.mem_cons_self
      have hpost : ∀ p ∈ post, i < p := fun p hp => (List.pairwise_cons.1 (List.pairwise_append.1 hpw).2.1).1 p hp
      have hunp : ∀ p ∈ pre, listed.getD p true = false := fun p hp => (mem_unl.1 (by rw [hsplit]; exact List.mem_append_left _ hp)).2
      have hap : ∀ p ∈ pre, ∀ op, ops[p]? = some op → op.apart ops o = true := by
        intro p hp op hop
        rcases ok.apart i o p op ho hop (hpre p hp) with ⟨e, he, hb, hon⟩ | h1
        · have h2 := hall e he hb
          rw [hon, getD_both (hunp p hp)] at h2
          cases h2
        · exact h1
      have hsz' : (listed.setIfInBounds i true).size = ops.size := by simp [hsz]
      have hcl' : ∀ j oj, ops[j]? = some oj → (listed.setIfInBounds i true).getD j false = true → ∀ e ∈ oj.after, Region.binds md e = true → (listed.setIfInBounds i true).getD e.on false = true := by
        intro j oj hj hl e he hb
        by_cases hij : i = j
        · subst hij
          have : oj = o := Option.some.inj (hj.symm.trans ho)
          subst this
          exact getD_set_true (hall e he hb)
        · rw [getD_set_ne false hij] at hl
          exact getD_set_true (hcl j oj hj hl e he hb)
      have hu' : unlB ops (listed.setIfInBounds i true) = pre ++ post := by
        have e1 : unlB ops (listed.setIfInBounds i true) = (unlB ops listed).filter (fun j => j != i) := by
          unfold unlB
          rw [List.filter_filter]
          refine List.filter_congr fun j hj => ?_
          by_cases hij : i = j
          · subst hij
            have : (listed.setIfInBounds i true).getD i true = true := by
              have : i < listed.size := by omega
              simp [this]
            simp [this]
          · rw [getD_set_ne true hij]
            have : (j != i) = true := by simp; exact fun e => hij e.symm
            simp [this]
        rw [e1, hsplit, List.filter_append, List.filter_cons]
        have f1 : pre.filter (fun j => j != i) = pre := List.filter_eq_self.2 fun p hp => by have := hpre p hp; simp; omega
        have f2 : post.filter (fun j => j != i) = post := List.filter_eq_self.2 fun p hp => by have := hpost p hp; simp; omega
        simp [f1, f2]
      have hlen' : (unlB ops (listed.setIfInBounds i true)).length ≤ n := by
        rw [hu']; rw [hsplit] at hlen; simp at hlen ⊢; omega
      have hun' : ∀ j ∈ pre ++ post, j ≠ i ∧ listed.getD j true = false := by
        intro j hj
        rcases List.mem_append.1 hj with hj | hj
        · exact ⟨by have := hpre j hj; omega, hunp j hj⟩
        · exact ⟨by have := hpost j hj; omega, (mem_unl.1 (by rw [hsplit]; exact List.mem_append_right _ (List.mem_cons_of_mem _ hj))).2⟩
      have hnot : ∀ j, j ≠ i → listed.getD j true = false → i ∉ descendB md ops j ops.size := by
        intro j hne hl hd
        have := (descend_listed hcl j ops.size i hd).2 (fun e => hne e.symm) (fun oj hoj e he hb => by
          have : oj = o := Option.some.inj (hoj.symm.trans ho)
          subst this
          exact hall e he hb)
        rw [getD_both hl] at this
        cases this
      rw [hsplit] at h
      have keep : ∀ a' w', (∀ j ∈ pre ++ post, E.contains j = false → C w') → wpMixI P md ops C E (fun a w => Q .normal a w) (pre ++ post) a' w' → wpAny P md ops Q n (listed.setIfInBounds i true) a' w' :=
        fun a' w' hc hh => ih _ a' w' hlen' hsz' hcl' (by rw [hu']; exact hc) (by rw [hu']; exact hh)
      cases hE : E.contains i with
      | false =>
        have hCw := hC i hmem hE
        have hopen : ∀ p ∈ pre, E.contains p = true → openB md ops E p = true := by
          intro p hp _
          unfold openB
          refine List.any_eq_true.2 ⟨i, List.mem_range.2 hlt, ?_⟩
          rw [hE]
          have : p ∉ descendB md ops i ops.size := fun hd => by have := descend_ge ok.topo i _ p hd; have := hpre p hp; omega
          simp [this]
        obtain ⟨v, hy, hr⟩ := mix_pickA ok.sel ho hE (ok.plain i o ho hE) post pre a w hap hopen hCw h
        exact wpOp_of_yields ho (ok.plain i o ho hE) hCw hy (keep _ _ (fun _ _ _ => hCw) hr)
      | true =>
        have hne : ∀ p ∈ pre, E.contains p = false := by
          intro p hp
          cases hEp : E.contains p with
          | false => rfl
          | true =>
            have hplt : p < ops.size := by have := hpre p hp; omega
            have := ok.chain i o p ops[p] ho (by simp [hplt]) (hpre p hp) hEp hE
            exact absurd this (hnot p (by have := hpre p hp; omega) (hunp p hp))
        unfold wpOp
        simp only [ho]
        rcases mix_pickB ok.sel ho hE post pre a w hap hne h with ⟨h1, h2⟩ | ⟨h1, h2⟩
        · simp only [h1, if_true]
          left
          refine wp_noExit (Oper.wp_mono (fun a' w' hh => keep a' w' (fun j hj hEj => hh.1 ?_) hh.2) h2)
          unfold openB
          obtain ⟨hji, hjl⟩ := hun' j hj
          have hjlt : j < ops.size := by
            have : j ∈ unlB ops listed := by
              rw [hsplit]
              rcases List.mem_append.1 hj with hj | hj
              · exact List.mem_append_left _ hj
              · exact List.mem_append_right _ (List.mem_cons_of_mem _ hj)
            exact (mem_unl.1 this).1
          refine List.any_eq_true.2 ⟨j, List.mem_range.2 hjlt, ?_⟩
          have := hnot j hji hjl
          rw [hEj]
          simp [this]
        · simp only [h1, Bool.false_eq_true, if_false]
          refine keep _ _ (fun j hj hEj => hC j ?_ hEj) h2
          rw [hsplit]
          rcases List.mem_append.1 hj with hj | hj
          · exact List.mem_append_left _ hj
          · exact List.mem_append_right _ (List.mem_cons_of_mem _ hj)

/-! ### What the walks use -/
/-- The walk in the order of the text, the operations themselves. -/
def wpMix (P : Program) (ops : Array Oper) (C : World → Prop) (E : List Nat) (Q : Exit → Act → World → Prop) : Nat → List Oper → Act → World → Prop
  | _, [], a, w => Q .normal a w
  | k, o :: rest, a, w =>
    if Region.wanted o (yielded ops a.tmps) then
      if E.contains k then o.wp P a w (fun a' w' => (openB .any ops E k = true → C w') ∧ wpMix P ops C E Q (k + 1) rest a' w') noExit
      else o.quiet P a C (fun a' => wpMix P ops C E Q (k + 1) rest a' w)
    else wpMix P ops C E Q (k + 1) rest (a.put o.dst undef) w

theorem wpMixI_of_wpMix : ∀ (l : List Oper) (k : Nat) (a : Act) (w : World), (∀ j, j < l.length → ops[k + j]? = l[j]?) → wpMix P ops C E Q k l a w → wpMixI P .any ops C E (fun a w => Q .normal a w) (List.range' k l.length) a w
  | [], k, a, w, _, h => h
  | o :: l, k, a, w, hl, h => by
    have h0 : ops[k]? = some o := by simpa using hl 0 (by simp)
    have IH := fun a w => wpMixI_of_wpMix l (k + 1) a w (fun j hj => by have := hl (j + 1) (by simp; omega); simpa [Nat.add_assoc, Nat.add_comm 1 j] using this)
    rw [List.length_cons, List.range'_succ, mix_cons h0]
    rw [wpMix] at h
    split
    · rename_i hw
      simp only [hw, if_true] at h
      split
      · rename_i hE
        simp only [hE, if_true] at h
        exact Oper.wp_mono (fun a' w' hh => ⟨hh.1, IH _ _ hh.2⟩) h
      · rename_i hE
        simp only [hE] at h
        exact Oper.quiet_mono (fun a' hh => IH _ _ hh) h
    · rename_i hw
      simp only [hw] at h
      exact IH _ _ h

theorem wp_region_mix {id : Nat} {a : Act} {w : World} {l : List Oper} (E : List Nat) (C : World → Prop) (hm : P.follows .mixedOrders = true) (hB : mixB .any l.toArray E = true) (hC : C w.drew)
    (h : wpMix P l.toArray C E Q 0 l a w.drew) : (Code.region id l.toArray true).wp P Q a w := by
  have ok := mixB_ok hB
  have hu : unlB l.toArray (Array.replicate l.toArray.size false) = List.range' 0 l.length := by
    unfold unlB
    rw [List.filter_eq_self.2, List.range_eq_range']
    · simp
    · intro i hi
      have hi' : i < l.length := by simpa using hi
      simp [hi']
  refine wp_region_any hm (mix_any (C := C) (E := E) ok _ _ a _ ?_ (by simp) ?_ ?_ ?_)
  · rw [hu]; simp
  · intro j oj _ hl
    rw [getD_replicate_false] at hl; cases hl
  · intro _ _ _; exact hC
  · rw [hu]
    exact wpMixI_of_wpMix l 0 a _ (fun j hj => by simp) h

/-- A stretch of n operations that only load. -/
theorem wpMix_seg (n : Nat) {k : Nat} {l : List Oper} {a : Act} {w : World} (hE : ((List.range n).all fun j => !E.contains (k + j)) = true) (hn : n ≤ l.length)
    (h : wpQuiet P ops C (fun a' => wpMix P ops C E Q (k + n) (l.drop n) a' w) (l.take n) a) : wpMix P ops C E Q k l a w := by
  induction n generalizing k l a with
  | zero => exact h
  | succ n ih =>
    cases l with
    | nil => simp at hn
    | cons o l =>
      have h0 : E.contains k = false := by simpa using List.all_eq_true.1 hE 0 (List.mem_range.2 (by omega))
      have hE' : ((List.range n).all fun j => !E.contains (k + 1 + j)) = true := by
        refine List.all_eq_true.2 fun j hj => ?_
        have := List.all_eq_true.1 hE (j + 1) (List.mem_range.2 (by have := List.mem_range.1 hj; omega))
        rwa [show k + (j + 1) = k + 1 + j by omega] at this
      simp only [List.take_succ_cons, List.drop_succ_cons, wpQuiet] at h
      rw [wpMix, h0]
      have e : k + (n + 1) = k + 1 + n := by omega
      rw [e] at h
      split
      · rename_i hw
        simp only [hw, if_true] at h
        exact Oper.quiet_mono (fun a' hh => ih hE' (by simpa using hn) hh) h
      · rename_i hw
        simp only [hw] at h
        exact ih hE' (by simpa using hn) h

def MixK (b : Bool) (C : World → Prop) (R : Act → World → Prop) : Exit → Act → World → Prop
  | .normal, a, w => (b = true → C w) ∧ R a w
  | _, _, _ => False

theorem MixK.last {b : Bool} {a : Act} {w : World} (hb : b = false) (h : R a w) : MixK b C R .normal a w := by
  show (b = true → C w) ∧ R a w
  exact ⟨(fun e => by rw [hb] at e; cases e), h⟩
theorem MixK.on {b : Bool} {a : Act} {w : World} (hc : C w) (h : R a w) : MixK b C R .normal a w := by
  show (b = true → C w) ∧ R a w
  exact ⟨fun _ => hc, h⟩

/-- An operation on memory. -/
theorem wpMix_eff {k : Nat} {o : Oper} {rest : List Oper} {a : Act} {w : World} (hE : E.contains k = true)
    (h : wpList P ops (MixK (openB .any ops E k) C (fun a' w' => wpMix P ops C E Q (k + 1) rest a' w')) [o] a w) : wpMix P ops C E Q k (o :: rest) a w := by
  rw [wpMix, hE]
  unfold wpList at h
  split
  · rename_i hw
    simp only [hw, if_true] at h ⊢
    rcases h with h | ⟨_, h⟩
    · unfold Oper.wp at *
      generalize (execOp a.eval o).run P w = r at *
      cases r with
      | ok n w' =>
        cases n <;> simp only [Oper.upon] at h ⊢ <;> try exact h
      | halt x w' => cases x <;> simp only [Oper.upon] at h ⊢ <;> exact h.elim
    · obtain ⟨a0, w0, h0⟩ := h
      exact h0.elim
  · rename_i hw
    simp only [hw] at h
    exact h.2

/-- A world in which S holds. -/
structure Memb (S : World → Prop) where
  at_ : World
  is : S at_
/-- The class of the worlds in which S holds, in the form in which the walk's steps take it: a fact of every such world may be laid as a rule. -/
def InS (S : World → Prop) (w : World) : Prop := ∃ x : Memb S, w = x.at_
theorem InS.mk {S : World → Prop} {w : World} (h : S w) : InS S w := ⟨⟨w, h⟩, rfl⟩
attribute [go_sem] InS
theorem wpMix_nil {k : Nat} {a : Act} {w : World} (h : Q .normal a w) : wpMix P ops C E Q k [] a w := h
end Mix
theorem quiet_conv {P : Program} {S : World → Prop} {a a' : Act} {o : Oper} {K : Act → Prop} {s t : TypeId} {x : Operand} {v u : Value} {d : Nat}
    (hm : ∀ x : Memb S, (convert s t v).run P x.at_ = .ok u x.at_) (h : o.op = .convert s t x) (hd : o.dst = some d) (he : a.eval x = v) (ha : a.put (some d) u = a') (hk : K a') : o.quiet P a (InS S) K := by
  refine ⟨u, fun w hw => ?_, by rw [hd, ha]; exact hk⟩
  obtain ⟨y, rfl⟩ := hw
  have e : (execOp a.eval o).run P y.at_ = .ok (.value u) y.at_ := by
    unfold execOp
    rw [h]
    simp only [Sem.run_bind, Sem.run_pure]
    rw [he, hm y]; rfl
  unfold Oper.quietAt
  rw [e]
  exact ⟨rfl, rfl⟩
end Go.Proofs.Ytdgjopejocfbeaa
