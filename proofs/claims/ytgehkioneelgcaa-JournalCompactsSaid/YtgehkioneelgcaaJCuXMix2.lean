
/- As Mix, and the class of worlds in which an operation holds still may be told once an operation on memory has run, for what descends from it: so a conversion of a call's result need not be ordered against the next call. -/
import Derived.Test.YtgehkioneelgcaaJCua
namespace Go.Proofs.Ytgehkioneelgcaa
open Go.RowKit

section Mix2
variable {P : Program} {ops : Array Oper} {Q : Exit → Act → World → Prop} {md : Region.Mode} {E : List Nat} {R : Act → World → Prop}

/-- Behind operation i the loading operation j may still be to come, and waits for no later operation on memory. -/
def openJ (md : Region.Mode) (ops : Array Oper) (E : List Nat) (i j : Nat) : Bool :=
  decide (j < ops.size) && !E.contains j && !(descendB md ops j ops.size).contains i && E.all (fun e => decide (e ≤ i) || !(descendB md ops e ops.size).contains j)
def kinB (md : Region.Mode) (ops : Array Oper) (i j : Nat) : Bool := (descendB md ops i ops.size).contains j

/-- What an operation on memory has to leave: the classes of what does not descend from it are kept, and the world is in the classes of all that may come now. -/
def Aft (md : Region.Mode) (ops : Array Oper) (E : List Nat) (i : Nat) (C C' : Nat → World → Prop) (w : World) : Prop :=
  (∀ j, kinB md ops i j = false → C' j = C j) ∧ (∀ j, openJ md ops E i j = true → C' j w)

def wpMixI2 (P : Program) (md : Region.Mode) (ops : Array Oper) (E : List Nat) (R : Act → World → Prop) : List Nat → (Nat → World → Prop) → Act → World → Prop
  | [], _, a, w => R a w
  | i :: U, C, a, w =>
    match ops[i]? with
    | none => wpMixI2 P md ops E R U C a w
    | some o =>
      if E.contains i then
        if Region.wanted o (yielded ops a.tmps) then o.wp P a w (fun a' w' => ∃ C', Aft md ops E i C C' w' ∧ wpMixI2 P md ops E R U C' a' w') noExit
        else ∃ C', Aft md ops E i C C' w ∧ wpMixI2 P md ops E R U C' (a.put o.dst undef) w
      else
        if Region.wanted o (yielded ops a.tmps) then o.quiet P a (C i) (fun a' => wpMixI2 P md ops E R U C a' w)
        else wpMixI2 P md ops E R U C (a.put o.dst undef) w

theorem mix2_cons {i : Nat} {o : Oper} {U : List Nat} {C : Nat → World → Prop} {a : Act} {w : World} (ho : ops[i]? = some o) :
    wpMixI2 P md ops E R (i :: U) C a w = (if E.contains i then
        if Region.wanted o (yielded ops a.tmps) then o.wp P a w (fun a' w' => ∃ C', Aft md ops E i C C' w' ∧ wpMixI2 P md ops E R U C' a' w') noExit
        else ∃ C', Aft md ops E i C C' w ∧ wpMixI2 P md ops E R U C' (a.put o.dst undef) w
      else
        if Region.wanted o (yielded ops a.tmps) then o.quiet P a (C i) (fun a' => wpMixI2 P md ops E R U C a' w)
        else wpMixI2 P md ops E R U C (a.put o.dst undef) w) := by
  rw [wpMixI2]; simp only [ho]

theorem mix2_none {i : Nat} {U : List Nat} {C : Nat → World → Prop} {a : Act} {w : World} (ho : ops[i]? = none) : wpMixI2 P md ops E R (i :: U) C a w = wpMixI2 P md ops E R U C a w := by
  rw [wpMixI2]; simp only [ho]

theorem mix2_pickA (hsel : selFree ops) {i : Nat} {o : Oper} (ho : ops[i]? = some o) (hi : E.contains i = false) (hp : plainOp o = true) (post : List Nat) :
    ∀ (pre : List Nat) (C : Nat → World → Prop) (a : Act) (w : World), (∀ p ∈ pre, ∀ op, ops[p]? = some op → op.apart ops o = true) → (∀ p ∈ pre, E.contains p = true → openJ md ops E p i = true ∧ kinB md ops p i = false) →
      C i w → wpMixI2 P md ops E R (pre ++ i :: post) C a w → ∃ v, YieldsIn P ops (C i) o v a ∧ wpMixI2 P md ops E R (pre ++ post) C (a.put o.dst v) w
  | [], C, a, w, _, _, _, h => by
    rw [List.nil_append, mix2_cons ho, hi] at h
    simp only [Bool.false_eq_true, if_false] at h
    by_cases hw : Region.wanted o (yielded ops a.tmps) = true
    · simp only [hw, if_true] at h
      obtain ⟨v, h1, h2⟩ := h
      exact ⟨v, .inl ⟨hw, h1⟩, h2⟩
    · simp only [hw, Bool.false_eq_true, if_false] at h
      exact ⟨undef, .inr ⟨by simpa using hw, rfl⟩, h⟩
  | p :: pre, C, a, w, hap, hop, hC, h => by
    have hap' : ∀ q ∈ pre, ∀ op, ops[q]? = some op → op.apart ops o = true := fun q hq => hap q (List.mem_cons_of_mem _ hq)
    have hop' : ∀ q ∈ pre, E.contains q = true → openJ md ops E q i = true ∧ kinB md ops q i = false := fun q hq => hop q (List.mem_cons_of_mem _ hq)
    have IH := mix2_pickA hsel ho hi hp post pre
    cases hop0 : ops[p]? with
    | none =>
      rw [List.cons_append, mix2_none hop0] at h
      obtain ⟨v, h1, h2⟩ := IH C a w hap' hop' hC h
      exact ⟨v, h1, by rw [List.cons_append, mix2_none hop0]; exact h2⟩
    | some op =>
      obtain ⟨ap1, ap2, ap3⟩ := Oper.apart_spec (hap p List.mem_cons_self op hop0)
      have so : ∀ cs b, o.op ≠ .select cs b := fun cs b => hsel i o cs b ho
      have sp : ∀ cs b, op.op ≠ .select cs b := fun cs b => hsel p op cs b hop0
      rw [List.cons_append, mix2_cons hop0] at h
      have hwv : ∀ v, Region.wanted op (yielded ops (a.put o.dst v).tmps) = Region.wanted op (yielded ops a.tmps) := fun v => wanted_put op a o.dst v ap3
      have ap2' : ∀ t, o.dst = some t → op.dst ≠ some t := fun t ht hh => ap2 t hh ht
      cases hE : E.contains p with
      | true =>
        obtain ⟨hopen, hkin⟩ := hop p List.mem_cons_self hE
        simp only [hE, if_true] at h
        by_cases hw : Region.wanted op (yielded ops a.tmps) = true
        · simp only [hw, if_true] at h
          obtain ⟨a1, w1, hl1, C1, hc1, hr1⟩ := wp_some h
          obtain ⟨v, hy, _⟩ := IH C1 a1 w1 hap' hop' (hc1.2 i hopen) hr1
          rw [hc1.1 i hkin] at hy
          have hyv := (YieldsIn.of_leaves (P := P) (C := C i) hl1 so ap1).1 hy
          refine ⟨v, hyv, ?_⟩
          rw [List.cons_append, mix2_cons hop0]
          simp only [hwv, hw, if_true, hE]
          refine wp_shift (ops := ops) sp ap3 ap2' (fun a' w' hl hk => ?_) h noExit_any
          obtain ⟨C', hc', hk'⟩ := hk
          obtain ⟨u, hyu, hru⟩ := IH C' a' w' hap' hop' (hc'.2 i hopen) hk'
          rw [hc'.1 i hkin] at hyu
          have e : u = v := YieldsIn.one hp hC ((YieldsIn.of_leaves (P := P) (C := C i) hl so ap1).1 hyu) hyv
          rw [← e]; exact ⟨C', hc', hru⟩
        · simp only [hw, Bool.false_eq_true, if_false] at h
          obtain ⟨C', hc', hk'⟩ := h
          obtain ⟨v, hy, hrv⟩ := IH C' _ w hap' hop' (hc'.2 i hopen) hk'
          rw [hc'.1 i hkin] at hy
          have hyv := (YieldsIn.of_leaves (P := P) (C := C i) ⟨undef, a.defers, rfl⟩ so ap1).1 hy
          refine ⟨v, hyv, ?_⟩
          rw [List.cons_append, mix2_cons hop0]
          simp only [hwv, hw, if_true, hE, Bool.false_eq_true, if_false]
          refine ⟨C', hc', ?_⟩
          rw [Act.put_comm a v undef (fun t ht => ap2' t ht)]; exact hrv
      | false =>
        simp only [hE, Bool.false_eq_true, if_false] at h
        by_cases hw : Region.wanted op (yielded ops a.tmps) = true
        · simp only [hw, if_true] at h
          obtain ⟨u, hu, hr⟩ := h
          obtain ⟨v, hy, hrv⟩ := IH C _ w hap' hop' hC hr
          have hyv := (YieldsIn.of_leaves (P := P) (C := C i) ⟨u, a.defers, rfl⟩ so ap1).1 hy
          refine ⟨v, hyv, ?_⟩
          rw [List.cons_append, mix2_cons hop0]
          simp only [hwv, hw, if_true, hE, Bool.false_eq_true, if_false]
          refine ⟨u, fun w' hw' => ?_, ?_⟩
          · have := hu w' hw'
            unfold Oper.quietAt at *
            rwa [execOp_put op sp a o.dst v ap3]
          · rw [Act.put_comm a v u (fun t ht => ap2' t ht)]; exact hrv
        · simp only [hw, Bool.false_eq_true, if_false] at h
          obtain ⟨v, hy, hrv⟩ := IH C _ w hap' hop' hC h
          have hyv := (YieldsIn.of_leaves (P := P) (C := C i) ⟨undef, a.defers, rfl⟩ so ap1).1 hy
          refine ⟨v, hyv, ?_⟩
          rw [List.cons_append, mix2_cons hop0]
          simp only [hwv, hw, hE, Bool.false_eq_true, if_false]
          rw [Act.put_comm a v undef (fun t ht => ap2' t ht)]; exact hrv

theorem mix2_pickB (hsel : selFree ops) {i : Nat} {o : Oper} (ho : ops[i]? = some o) (hi : E.contains i = true) (post : List Nat) :
    ∀ (pre : List Nat) (C : Nat → World → Prop) (a : Act) (w : World), (∀ p ∈ pre, ∀ op, ops[p]? = some op → op.apart ops o = true) → (∀ p ∈ pre, E.contains p = false ∧ kinB md ops i p = false) →
      wpMixI2 P md ops E R (pre ++ i :: post) C a w →
      (Region.wanted o (yielded ops a.tmps) = true ∧ o.wp P a w (fun a' w' => ∃ C', Aft md ops E i C C' w' ∧ wpMixI2 P md ops E R (pre ++ post) C' a' w') noExit) ∨
      (Region.wanted o (yielded ops a.tmps) = false ∧ ∃ C', Aft md ops E i C C' w ∧ wpMixI2 P md ops E R (pre ++ post) C' (a.put o.dst undef) w)
  | [], C, a, w, _, _, h => by
    rw [List.nil_append, mix2_cons ho, hi] at h
    simp only [if_true] at h
    by_cases hw : Region.wanted o (yielded ops a.tmps) = true
    · simp only [hw, if_true] at h
      exact .inl ⟨hw, h⟩
    · simp only [hw, Bool.false_eq_true, if_false] at h
      exact .inr ⟨by simpa using hw, h⟩
  | p :: pre, C, a, w, hap, hne, h => by
    have hap' : ∀ q ∈ pre, ∀ op, ops[q]? = some op → op.apart ops o = true := fun q hq => hap q (List.mem_cons_of_mem _ hq)
    have hne' : ∀ q ∈ pre, E.contains q = false ∧ kinB md ops i q = false := fun q hq => hne q (List.mem_cons_of_mem _ hq)
    have IH := mix2_pickB hsel ho hi post pre
    cases hop0 : ops[p]? with
    | none =>
      rw [List.cons_append, mix2_none hop0] at h
      simpa only [List.cons_append, mix2_none hop0] using IH C a w hap' hne' h
    | some op =>
      obtain ⟨ap1, ap2, ap3⟩ := Oper.apart_spec (hap p List.mem_cons_self op hop0)
      have so : ∀ cs b, o.op ≠ .select cs b := fun cs b => hsel i o cs b ho
      have sp : ∀ cs b, op.op ≠ .select cs b := fun cs b => hsel p op cs b hop0
      obtain ⟨hE, hkin⟩ := hne p List.mem_cons_self
      have ap2' : ∀ t, o.dst = some t → op.dst ≠ some t := fun t ht hh => ap2 t hh ht
      rw [List.cons_append, mix2_cons hop0] at h
      have go : ∀ u, wpMixI2 P md ops E R (pre ++ i :: post) C (a.put op.dst u) w →
          (∀ C' a' w', C' p = C p → (execOp a'.eval op = execOp a.eval op ∧ Region.wanted op (yielded ops a'.tmps) = Region.wanted op (yielded ops a.tmps)) → wpMixI2 P md ops E R (pre ++ post) C' (a'.put op.dst u) w' → wpMixI2 P md ops E R (p :: pre ++ post) C' a' w') →
          (Region.wanted o (yielded ops a.tmps) = true ∧ o.wp P a w (fun a' w' => ∃ C', Aft md ops E i C C' w' ∧ wpMixI2 P md ops E R (p :: pre ++ post) C' a' w') noExit) ∨
          (Region.wanted o (yielded ops a.tmps) = false ∧ ∃ C', Aft md ops E i C C' w ∧ wpMixI2 P md ops E R (p :: pre ++ post) C' (a.put o.dst undef) w) := by
        intro u hu hback
        have hwo : Region.wanted o (yielded ops (a.put op.dst u).tmps) = Region.wanted o (yielded ops a.tmps) := wanted_put o a op.dst u ap1
        rcases IH C _ w hap' hne' hu with ⟨h1, h2⟩ | ⟨h1, h2⟩
        · refine .inl ⟨by rw [← hwo]; exact h1, ?_⟩
          unfold Oper.wp at h2 ⊢
          rw [execOp_put o so a op.dst u ap1] at h2
          have hc : ∀ x, (a.put op.dst u).put o.dst x = (a.put o.dst x).put op.dst u := fun x => Act.put_comm a u x (fun t ht => ap2 t ht)
          have same : ∀ x ds, execOp (({ a with defers := ds } : Act).put o.dst x).eval op = execOp a.eval op ∧ Region.wanted op (yielded ops (({ a with defers := ds } : Act).put o.dst x).tmps) = Region.wanted op (yielded ops a.tmps) :=
            fun x ds => Leaves.eval (o := o) ⟨x, ds, rfl⟩ sp ap3
          have fin : ∀ x ds w1, (∃ C', Aft md ops E i C C' w1 ∧ wpMixI2 P md ops E R (pre ++ post) C' ((({ a with defers := ds } : Act).put o.dst x).put op.dst u) w1) →
              ∃ C', Aft md ops E i C C' w1 ∧ wpMixI2 P md ops E R (p :: pre ++ post) C' (({ a with defers := ds } : Act).put o.dst x) w1 := fun x ds w1 ⟨C', hc', hk'⟩ =>
            ⟨C', hc', hback C' _ _ (hc'.1 p hkin) (same x ds) hk'⟩
          generalize (execOp a.eval o).run P w = r at *
          cases r with
          | ok n w' =>
            cases n <;> simp only [Oper.upon] at h2 ⊢ <;> try exact h2
            case value x => rw [hc] at h2; exact fin x a.defers _ h2
            case skip => rw [hc] at h2; exact fin undef a.defers _ h2
            case defer x =>
              have e1 : ({ a.put op.dst u with defers := x :: (a.put op.dst u).defers } : Act).put o.dst undef = (({ a with defers := x :: a.defers } : Act).put o.dst undef).put op.dst u := by
                rw [Act.put_defers]
                exact Act.put_comm _ u undef (fun t ht => ap2 t ht)
              rw [e1] at h2
              exact fin undef (x :: a.defers) _ h2
            case enter f args =>
              exact Calls.mono h2 (fun e w'' he => by
                cases e with
                | returned x =>
                  have he' : ∃ C', Aft md ops E i C C' w'' ∧ wpMixI2 P md ops E R (pre ++ post) C' ((a.put op.dst u).put o.dst x) w'' := he
                  rw [hc] at he'
                  exact fin x a.defers _ he'
                | panicked c => exact he
                | outgrown => exact he)
            case row row args => exact Rows.mono h2 (fun x w'' he => by rw [hc] at he; exact fin x a.defers _ he)
          | halt x w' => cases x <;> simp only [Oper.upon] at h2 ⊢ <;> exact h2
        · obtain ⟨C', hc', hk'⟩ := h2
          refine .inr ⟨by rw [← hwo]; exact h1, C', hc', hback C' _ _ (hc'.1 p hkin) (Leaves.eval (o := o) ⟨undef, a.defers, rfl⟩ sp ap3) ?_⟩
          rw [← Act.put_comm a u undef (fun t ht => ap2 t ht)]; exact hk'
      simp only [hE, Bool.false_eq_true, if_false] at h
      by_cases hw : Region.wanted op (yielded ops a.tmps) = true
      · simp only [hw, if_true] at h
        obtain ⟨u, hu, hr⟩ := h
        refine go u hr fun C' a' w' hCp hs hr' => ?_
        rw [List.cons_append, mix2_cons hop0]
        simp only [hs.2, hw, if_true, hE, Bool.false_eq_true, if_false]
        rw [hCp]
        refine ⟨u, fun w'' hw'' => ?_, hr'⟩
        have := hu w'' hw''
        unfold Oper.quietAt at *
        rwa [hs.1]
      · simp only [hw, Bool.false_eq_true, if_false] at h
        refine go undef h fun C' a' w' _ hs hr' => ?_
        rw [List.cons_append, mix2_cons hop0]
        simp only [hs.2, hw, hE, Bool.false_eq_true, if_false]
        exact hr'

theorem mix2_any (ok : MixOk md ops E) : ∀ (n : Nat) (listed : Array Bool) (C : Nat → World → Prop) (a : Act) (w : World), (unlB ops listed).length ≤ n → listed.size = ops.size →
    (∀ j oj, ops[j]? = some oj → listed.getD j false = true → ∀ e ∈ oj.after, Region.binds md e = true → listed.getD e.on false = true) →
    (∀ j ∈ unlB ops listed, E.contains j = false → (∀ e, E.contains e = true → kinB md ops e j = true → listed.getD e false = true) → C j w) → wpMixI2 P md ops E (fun a w => Q .normal a w) (unlB ops listed) C a w → wpAny P md ops Q n listed a w := by
  intro n
  induction n with
  | zero =>
    intro listed C a w hlen hsz hcl hC h
    have hu : unlB ops listed = [] := List.eq_nil_of_length_eq_zero (Nat.le_zero.1 hlen)
    rw [hu] at h
    refine ⟨?_, h⟩
    cases hr : Region.ready md ops listed with
    | nil => rfl
    | cons x xs =>
      have hx : x ∈ Region.ready md ops listed := by rw [hr]; exact List.mem_cons_self
      obtain ⟨h1, o, ho, _⟩ := mem_ready.1 hx
      have : x ∈ unlB ops listed := mem_unl.2 ⟨(Array.getElem?_eq_some_iff.1 ho).1, h1⟩
      rw [hu] at this; cases this
  | succ n ih =>
    intro listed C a w hlen hsz hcl hC h
    refine ⟨fun hr => ?_, fun i hi => ?_⟩
    · cases hu : unlB ops listed with
      | nil => rw [hu] at h; exact h
      | cons i0 U =>
        exfalso
        have hi0 : i0 ∈ unlB ops listed := by rw [hu]; exact List.mem_cons_self
        obtain ⟨hlt, hun⟩ := mem_unl.1 hi0
        have hpw : (unlB ops listed).Pairwise (· < ·) := List.Pairwise.filter _ List.pairwise_lt_range
        rw [hu, List.pairwise_cons] at hpw
        have : i0 ∈ Region.ready md ops listed := by
          refine mem_ready.2 ⟨hun, ops[i0], by simp [hlt], fun e he hb => ?_⟩
          have hon := ok.topo i0 ops[i0] (by simp [hlt]) e he hb
          cases hl : listed.getD e.on false with
          | true => rfl
          | false =>
            have hm : e.on ∈ unlB ops listed := mem_unl.2 ⟨by omega, getD_in (by omega) hl⟩
            rw [hu] at hm
            rcases List.mem_cons.1 hm with hm | hm
            · omega
            · have := hpw.1 _ hm; omega
        rw [hr] at this; cases this
    · obtain ⟨hun, o, ho, hall⟩ := mem_ready.1 hi
      have hlt : i < ops.size := (Array.getElem?_eq_some_iff.1 ho).1
      have hmem : i ∈ unlB ops listed := mem_unl.2 ⟨hlt, hun⟩
      obtain ⟨pre, post, hsplit⟩ := List.append_of_mem hmem
      have hpw : (unlB ops listed).Pairwise (· < ·) := List.Pairwise.filter _ List.pairwise_lt_range
      rw [hsplit] at hpw
      have hpre : ∀ p ∈ pre, p < i := fun p hp => (List.pairwise_append.1 hpw).2.2 p hp i List.mem_cons_self
      have hpost : ∀ p ∈ post, i < p := fun p hp => (List.pairwise_cons.1 (List.pairwise_append.1 hpw).2.1).1 p hp
      have hunp : ∀ p ∈ pre, listed.getD p true = false := fun p hp => (mem_unl.1 (by rw [hsplit]; exact List.mem_append_left _ hp)).2
      have hap : ∀ p ∈ pre, ∀ op, ops[p]? = some op → op.apart ops o = true := by
        intro p hp op hop
        rcases ok.apart i o p op ho hop (hpre p hp) with ⟨e, he, hb, hon⟩ | h1
        · have h2 := hall e he hb
          rw [hon, getD_both (hunp p hp)] at h2
          cases h2
        · exact h1
      have hsz' : (listed.setIfInBounds i true).size = ops.size := by simp [hsz]
      have hcl' : ∀ j oj, ops[j]? = some oj → (listed.setIfInBounds i true).getD j false = true → ∀ e ∈ oj.after, Region.binds md e = true → (listed.setIfInBounds i true).getD e.on false = true := by
        intro j oj hj hl e he hb
        by_cases hij : i = j
        · subst hij
          have : oj = o := Option.some.inj (hj.symm.trans ho)
          subst this
          exact getD_set_true (hall e he hb)
        · rw [getD_set_ne false hij] at hl
          exact getD_set_true (hcl j oj hj hl e he hb)
      have hu' : unlB ops (listed.setIfInBounds i true) = pre ++ post := by
        have e1 : unlB ops (listed.setIfInBounds i true) = (unlB ops listed).filter (fun j => j != i) := by
          unfold unlB
          rw [List.filter_filter]
          refine List.filter_congr fun j hj => ?_
          by_cases hij : i = j
          · subst hij
            have : (listed.setIfInBounds i true).getD i true = true := by
              have : i < listed.size := by omega
              simp [this]
            simp [this]
          · rw [getD_set_ne true hij]
            have : (j != i) = true := by simp; exact fun e => hij e.symm
            simp [this]
        rw [e1, hsplit, List.filter_append, List.filter_cons]
        have f1 : pre.filter (fun j => j != i) = pre := List.filter_eq_self.2 fun p hp => by have := hpre p hp; simp; omega
        have f2 : post.filter (fun j => j != i) = post := List.filter_eq_self.2 fun p hp => by have := hpost p hp; simp; omega
        simp [f1, f2]
      have hlen' : (unlB ops (listed.setIfInBounds i true)).length ≤ n := by
        rw [hu']; rw [hsplit] at hlen; simp at hlen ⊢; omega
      have hun' : ∀ j ∈ pre ++ post, j ≠ i ∧ listed.getD j true = false := by
        intro j hj
        rcases List.mem_append.1 hj with hj | hj
        · exact ⟨by have := hpre j hj; omega, hunp j hj⟩
        · exact ⟨by have := hpost j hj; omega, (mem_unl.1 (by rw [hsplit]; exact List.mem_append_right _ (List.mem_cons_of_mem _ hj))).2⟩
      have hnot : ∀ j, j ≠ i → listed.getD j true = false → i ∉ descendB md ops j ops.size := by
        intro j hne hl hd
        have := (descend_listed hcl j ops.size i hd).2 (fun e => hne e.symm) (fun oj hoj e he hb => by
          have : oj = o := Option.some.inj (hoj.symm.trans ho)
          subst this
          exact hall e he hb)
        rw [getD_both hl] at this
        cases this
      have hltj : ∀ j ∈ pre ++ post, j < ops.size := fun j hj => ((mem_unl (ops := ops) (listed := listed)).1 (by
        rw [hsplit]
        rcases List.mem_append.1 hj with hj | hj
        · exact List.mem_append_left _ hj
        · exact List.mem_append_right _ (List.mem_cons_of_mem _ hj))).1
      have hge : ∀ e j, kinB md ops e j = true → e ≤ j := fun e j hk => descend_ge ok.topo e _ j (by unfold kinB at hk; simpa using hk)
      -- a chain of operations on memory: a later one is listed only behind an earlier one
      have hchain : ∀ p e, p < e → e < ops.size → E.contains p = true → E.contains e = true → listed.getD e false = true → listed.getD p false = true := by
        intro p e hpe he hEp hEe hl
        exact (descend_listed hcl p ops.size e (ok.chain e ops[e] p (ops[p]'(by omega)) (Array.getElem?_eq_getElem he) (Array.getElem?_eq_getElem (by omega)) hpe hEp hEe)).1 hl
      rw [hsplit] at h
      cases hE : E.contains i with
      | false =>
        have hel : ∀ e, E.contains e = true → kinB md ops e i = true → listed.getD e false = true := by
          intro e hEe hk
          have hei : i ≠ e := fun hh => by rw [hh, hEe] at hE; cases hE
          have hm : i ∈ descendB md ops e ops.size := by unfold kinB at hk; simpa using hk
          exact (descend_listed hcl e ops.size i hm).2 hei (fun oj hoj e' he' hb' => by
            have : oj = o := Option.some.inj (hoj.symm.trans ho)
            subst this
            exact hall e' he' hb')
        have hCw := hC i hmem hE hel
        have hopen : ∀ p ∈ pre, E.contains p = true → openJ md ops E p i = true ∧ kinB md ops p i = false := by
          intro p hp hEp
          have hpl := hunp p hp
          have hk : kinB md ops p i = false := by
            cases hk : kinB md ops p i with
            | false => rfl
            | true => have := hel p hEp hk; rw [getD_both hpl] at this; cases this
          refine ⟨?_, hk⟩
          unfold openJ
          have h1 : p ∉ descendB md ops i ops.size := fun hd => by have := descend_ge ok.topo i _ p hd; have := hpre p hp; omega
          simp only [hlt, decide_true, hE, Bool.not_false, Bool.true_and, Bool.and_eq_true, List.all_eq_true, Bool.or_eq_true, decide_eq_true_eq]
          refine ⟨by simpa using h1, fun e he => ?_⟩
          by_cases hep : e ≤ p
          · exact .inl hep
          · right
            cases hk2 : kinB md ops e i with
            | false => show (!kinB md ops e i) = true; rw [hk2]; rfl
            | true =>
              have hEe : E.contains e = true := by simpa using he
              have hle := hel e hEe hk2
              have hei := hge e i hk2
              have := hchain p e (by omega) (by omega) hEp hEe hle
              rw [getD_both hpl] at this; cases this
        obtain ⟨v, hy, hr⟩ := mix2_pickA ok.sel ho hE (ok.plain i o ho hE) post pre C a w hap hopen hCw h
        refine wpOp_of_yields ho (ok.plain i o ho hE) hCw hy (ih _ C _ _ hlen' hsz' hcl' ?_ (by rw [hu']; exact hr))
        rw [hu']
        intro j hj hEj helj
        refine hC j (by
          rw [hsplit]
          rcases List.mem_append.1 hj with hj | hj
          · exact List.mem_append_left _ hj
          · exact List.mem_append_right _ (List.mem_cons_of_mem _ hj)) hEj (fun e hEe hk => ?_)
        have := helj e hEe hk
        rwa [getD_set_ne false (fun hh => by rw [← hh, hE] at hEe; cases hEe)] at this
      | true =>
        have hne : ∀ p ∈ pre, E.contains p = false ∧ kinB md ops i p = false := by
          intro p hp
          refine ⟨?_, ?_⟩
          · cases hEp : E.contains p with
            | false => rfl
            | true =>
              have hplt : p < ops.size := by have := hpre p hp; omega
              have := ok.chain i o p ops[p] ho (by simp [hplt]) (hpre p hp) hEp hE
              exact absurd this (hnot p (by have := hpre p hp; omega) (hunp p hp))
          · cases hk : kinB md ops i p with
            | false => rfl
            | true => have := hge i p hk; have := hpre p hp; omega
        have keep : ∀ a' w', (∃ C', Aft md ops E i C C' w' ∧ wpMixI2 P md ops E (fun a w => Q .normal a w) (pre ++ post) C' a' w') → wpAny P md ops Q n (listed.setIfInBounds i true) a' w' := by
          rintro a' w' ⟨C', hc', hk'⟩
          refine ih _ C' a' w' hlen' hsz' hcl' ?_ (by rw [hu']; exact hk')
          rw [hu']
          intro j hj hEj helj
          refine hc'.2 j ?_
          obtain ⟨hji, hjl⟩ := hun' j hj
          have hjlt := hltj j hj
          have h1 := hnot j hji hjl
          unfold openJ
          simp only [hjlt, decide_true, hEj, Bool.not_false, Bool.true_and, Bool.and_eq_true, List.all_eq_true, Bool.or_eq_true, decide_eq_true_eq]
          refine ⟨by simpa using h1, fun e he => ?_⟩
          by_cases hei : e ≤ i
          · exact .inl hei
          · right
            cases hk2 : kinB md ops e j with
            | false => show (!kinB md ops e j) = true; rw [hk2]; rfl
            | true =>
              have hEe : E.contains e = true := by simpa using he
              have hle := helj e hEe hk2
              rw [getD_set_ne false (by omega)] at hle
              have hej := hge e j hk2
              have := hchain i e (by omega) (by omega) hE hEe hle
              rw [getD_both hun] at this; cases this
        unfold wpOp
        simp only [ho]
        rcases mix2_pickB ok.sel ho hE post pre C a w hap hne h with ⟨h1, h2⟩ | ⟨h1, h2⟩
        · simp only [h1, if_true]
          left
          exact wp_noExit (Oper.wp_mono (fun a' w' hh => keep a' w' hh) h2)
        · simp only [h1, Bool.false_eq_true, if_false]
          exact keep _ _ h2

/-! ### What the walks use -/
def wpMix2 (P : Program) (ops : Array Oper) (E : List Nat) (Q : Exit → Act → World → Prop) : Nat → List Oper → (Nat → World → Prop) → Act → World → Prop
  | _, [], _, a, w => Q .normal a w
  | k, o :: rest, C, a, w =>
    if E.contains k then
      if Region.wanted o (yielded ops a.tmps) then o.wp P a w (fun a' w' => ∃ C', Aft .any ops E k C C' w' ∧ wpMix2 P ops E Q (k + 1) rest C' a' w') noExit
      else ∃ C', Aft .any ops E k C C' w ∧ wpMix2 P ops E Q (k + 1) rest C' (a.put o.dst undef) w
    else
      if Region.wanted o (yielded ops a.tmps) then o.quiet P a (C k) (fun a' => wpMix2 P ops E Q (k + 1) rest C a' w)
      else wpMix2 P ops E Q (k + 1) rest C (a.put o.dst undef) w

theorem wpMixI2_of_wpMix2 : ∀ (l : List Oper) (k : Nat) (C : Nat → World → Prop) (a : Act) (w : World), (∀ j, j < l.length → ops[k + j]? = l[j]?) → wpMix2 P ops E Q k l C a w → wpMixI2 P .any ops E (fun a w => Q .normal a w) (List.range' k l.length) C a w
  | [], k, C, a, w, _, h => h
  | o :: l, k, C, a, w, hl, h => by
    have h0 : ops[k]? = some o := by simpa using hl 0 (by simp)
    have IH := fun C a w => wpMixI2_of_wpMix2 l (k + 1) C a w (fun j hj => by have := hl (j + 1) (by simp; omega); simpa [Nat.add_assoc, Nat.add_comm 1 j] using this)
    rw [List.length_cons, List.range'_succ, mix2_cons h0]
    rw [wpMix2] at h
    split
    · rename_i hE
      simp only [hE, if_true] at h
      split
      · rename_i hw
        simp only [hw, if_true] at h
        exact Oper.wp_mono (fun a' w' ⟨C', h1, h2⟩ => ⟨C', h1, IH _ _ _ h2⟩) h
      · rename_i hw
        simp only [hw] at h
        obtain ⟨C', h1, h2⟩ := h
        exact ⟨C', h1, IH _ _ _ h2⟩
    · rename_i hE
      simp only [hE] at h
      split
      · rename_i hw
        simp only [hw, if_true] at h
        exact Oper.quiet_mono (fun a' hh => IH _ _ _ hh) h
      · rename_i hw
        simp only [hw] at h
        exact IH _ _ _ h

/-- The classes: one for all, others for single operations. -/
def cl (S : World → Prop) : List (Nat × (World → Prop)) → Nat → World → Prop
  | [], _ => S
  | (k, D) :: L, j => if j = k then D else cl S L j

theorem wp_region_mix2 {id : Nat} {a : Act} {w : World} {l : List Oper} (E : List Nat) (S : World → Prop) (hm : P.follows .mixedOrders = true) (hB : mixB .any l.toArray E = true) (hC : S w.drew)
    (h : wpMix2 P l.toArray E Q 0 l (cl S []) a w.drew) : (Code.region id l.toArray true).wp P Q a w := by
  have ok := mixB_ok hB
  have hu : unlB l.toArray (Array.replicate l.toArray.size false) = List.range' 0 l.length := by
    unfold unlB
    rw [List.filter_eq_self.2, List.range_eq_range']
    · simp
    · intro i hi
      have hi' : i < l.length := by simpa using hi
      simp [hi']
  refine wp_region_any hm (mix2_any (E := E) ok _ _ (cl S []) a _ ?_ (by simp) ?_ ?_ ?_)
  · rw [hu]; simp
  · intro j oj _ hl
    rw [getD_replicate_false] at hl; cases hl
  · intro _ _ _ _; exact hC
  · rw [hu]
    exact wpMixI2_of_wpMix2 l 0 _ a _ (fun j hj => by simp) h

/-- A stretch of n operations that only load, all of one class. -/
theorem wpMix2_seg (n : Nat) (D : World → Prop) {k : Nat} {l : List Oper} {C : Nat → World → Prop} {a : Act} {w : World} (hE : ((List.range n).all fun j => !E.contains (k + j)) = true) (hn : n ≤ l.length) (hD : ∀ j, j < n → C (k + j) = D)
    (h : wpQuiet P ops D (fun a' => wpMix2 P ops E Q (k + n) (l.drop n) C a' w) (l.take n) a) : wpMix2 P ops E Q k l C a w := by
  induction n generalizing k l a with
  | zero => exact h
  | succ n ih =>
    cases l with
    | nil => simp at hn
    | cons o l =>
      have h0 : E.contains k = false := by simpa using List.all_eq_true.1 hE 0 (List.mem_range.2 (by omega))
      have hE' : ((List.range n).all fun j => !E.contains (k + 1 + j)) = true := by
        refine List.all_eq_true.2 fun j hj => ?_
        have := List.all_eq_true.1 hE (j + 1) (List.mem_range.2 (by have := List.mem_range.1 hj; omega))
        rwa [show k + (j + 1) = k + 1 + j by omega] at this
      have hD' : ∀ j, j < n → C (k + 1 + j) = D := fun j hj => by
        have := hD (j + 1) (by omega)
        rwa [show k + (j + 1) = k + 1 + j by omega] at this
      have hCk : C k = D := hD 0 (by omega)
      simp only [List.take_succ_cons, List.drop_succ_cons, wpQuiet] at h
      rw [wpMix2, h0, hCk]
      have e : k + (n + 1) = k + 1 + n := by omega
      rw [e] at h
      simp only [Bool.false_eq_true, if_false]
      split
      · rename_i hw
        simp only [hw, if_true] at h
        exact Oper.quiet_mono (fun a' hh => ih hE' (by simpa using hn) hD' hh) h
      · rename_i hw
        simp only [hw] at h
        exact ih hE' (by simpa using hn) hD' h

/-- The common class's stretch: none of the single ones lies in it. -/
theorem cl_base {S : World → Prop} {L : List (Nat × (World → Prop))} {k n : Nat} (ks : List Nat) (hk : L.map Prod.fst = ks) (h : (ks.all fun x => decide (x < k) || decide (k + n ≤ x)) = true) : ∀ j, j < n → cl S L (k + j) = S := by
  subst hk
  intro j hj
  induction L with
  | nil => rfl
  | cons p L ih =>
    obtain ⟨x, D⟩ := p
    simp only [List.map_cons, List.all_cons, Bool.and_eq_true, Bool.or_eq_true, decide_eq_true_eq] at h
    show (if k + j = x then D else cl S L (k + j)) = S
    rw [if_neg (by omega)]
    exact ih h.2
theorem cl_one {S D : World → Prop} {L : List (Nat × (World → Prop))} {k : Nat} (h : cl S L k = D) : ∀ j, j < 1 → cl S L (k + j) = D := by
  intro j hj
  obtain rfl : j = 0 := by omega
  exact h

/-- Behind an operation on memory. -/
def MixK2 (ops : Array Oper) (E : List Nat) (k : Nat) (C : Nat → World → Prop) (R : (Nat → World → Prop) → Act → World → Prop) : Exit → Act → World → Prop
  | .normal, a, w => ∃ C', Aft .any ops E k C C' w ∧ R C' a w
  | _, _, _ => False
theorem MixK2.on {k : Nat} {S : World → Prop} {L : List (Nat × (World → Prop))} {R : (Nat → World → Prop) → Act → World → Prop} {a : Act} {w : World}
    (hc : ∀ j, openJ .any ops E k j = true → cl S L j w) (h : R (cl S L) a w) : MixK2 ops E k (cl S L) R .normal a w := ⟨_, ⟨fun _ _ => rfl, hc⟩, h⟩
theorem MixK2.late {k x : Nat} {S D : World → Prop} {L : List (Nat × (World → Prop))} {R : (Nat → World → Prop) → Act → World → Prop} {a : Act} {w : World} (hx : kinB .any ops k x = true)
    (hc : ∀ j, openJ .any ops E k j = true → cl S ((x, D) :: L) j w) (h : R (cl S ((x, D) :: L)) a w) : MixK2 ops E k (cl S L) R .normal a w :=
  ⟨_, ⟨fun j hj => by
    show (if j = x then D else cl S L j) = cl S L j
    rw [if_neg (fun e => by rw [e, hx] at hj; cases hj)], hc⟩, h⟩
theorem cls_base {p : Nat → Bool} {S : World → Prop} {w : World} (h : S w) : ∀ j, p j = true → cl S [] j w := fun _ _ => h
theorem openJ_lt {i j : Nat} (h : openJ md ops E i j = true) : j < ops.size := by
  unfold openJ at h
  simp only [Bool.and_eq_true, decide_eq_true_eq] at h
  exact h.1.1.1
def LtAll (p : Nat → Bool) (n : Nat) : Prop := ∀ j, p j = true → j < n
theorem lt_open {i : Nat} : LtAll (fun j => openJ md ops E i j) ops.size := fun _ h => openJ_lt h
theorem lt_and {p : Nat → Bool} {n x : Nat} (h : LtAll p n) : LtAll (fun j => p j && !(j == x)) n := fun j hj => by
  simp only [Bool.and_eq_true] at hj; exact h j hj.1
theorem cls_none {p : Nat → Bool} {S : World → Prop} {w : World} {n : Nat} (hn : LtAll p n) (h : ((List.range n).all fun j => !p j) = true) : ∀ j, p j = true → cl S [] j w := fun j hj => by
  have := List.all_eq_true.1 h j (List.mem_range.2 (hn j hj))
  rw [hj] at this; cases this
theorem cls_cons {p : Nat → Bool} {x : Nat} {S D : World → Prop} {L : List (Nat × (World → Prop))} {w : World} (h : D w) (t : ∀ j, (p j && !(j == x)) = true → cl S L j w) : ∀ j, p j = true → cl S ((x, D) :: L) j w := fun j hj => by
  show (if j = x then D else cl S L j) w
  split
  · exact h
  · rename_i hne
    exact t j (by simp [hj, hne])
theorem cls_skip {p : Nat → Bool} {x : Nat} {S D : World → Prop} {L : List (Nat × (World → Prop))} {w : World} (h : p x = false) (t : ∀ j, (p j && !(j == x)) = true → cl S L j w) : ∀ j, p j = true → cl S ((x, D) :: L) j w := fun j hj => by
  show (if j = x then D else cl S L j) w
  split
  · rename_i e; rw [e, h] at hj; cases hj
  · rename_i hne
    exact t j (by simp [hj, hne])
theorem wpMix2_eff {k : Nat} {o : Oper} {rest : List Oper} {C : Nat → World → Prop} {a : Act} {w : World} (hE : E.contains k = true)
    (h : wpList P ops (MixK2 ops E k C (fun C' a' w' => wpMix2 P ops E Q (k + 1) rest C' a' w')) [o] a w) : wpMix2 P ops E Q k (o :: rest) C a w := by
  rw [wpMix2, hE]
  unfold wpList at h
  simp only [if_true]
  split
  · rename_i hw
    simp only [hw, if_true] at h ⊢
    rcases h with h | ⟨_, h⟩
    · unfold Oper.wp at *
      generalize (execOp a.eval o).run P w = r at *
      cases r with
      | ok n w' =>
        cases n <;> simp only [Oper.upon] at h ⊢ <;> try exact h
      | halt x w' => cases x <;> simp only [Oper.upon] at h ⊢ <;> exact h.elim
    · obtain ⟨a0, w0, h0⟩ := h
      exact h0.elim
  · rename_i hw
    simp only [hw] at h
    exact h
theorem wpMix2_nil {k : Nat} {C : Nat → World → Prop} {a : Act} {w : World} (h : Q .normal a w) : wpMix2 P ops E Q k [] C a w := h
end Mix2
end Go.Proofs.Ytgehkioneelgcaa
