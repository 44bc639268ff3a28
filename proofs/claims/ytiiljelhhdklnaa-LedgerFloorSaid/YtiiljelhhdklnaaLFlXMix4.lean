
/- As Mix, where operations on memory may come in any order that the region allows: a walk for each of the next that may come. -/
import Derived.Test.YtiiljelhhdklnaaLFlb
namespace Go.Proofs.Ytiiljelhhdklnaa
open Go.RowKit

section Mix4
variable {P : Program} {ops : Array Oper} {C : World → Prop} {Q : Exit → Act → World → Prop} {md : Region.Mode} {E : List Nat} {R R' : Act → World → Prop}

structure MixOkT (md : Region.Mode) (ops : Array Oper) (E : List Nat) : Prop where
  sel : selFree ops
  topo : ∀ i o, ops[i]? = some o → ∀ e ∈ o.after, Region.binds md e = true → e.on < i
  plain : ∀ i o, ops[i]? = some o → E.contains i = false → plainOp o = true
  apart : ∀ i o p op, ops[i]? = some o → ops[p]? = some op → p < i → (∃ e ∈ o.after, Region.binds md e = true ∧ e.on = p) ∨ op.apart ops o = true

def mixTB (md : Region.Mode) (ops : Array Oper) (E : List Nat) : Bool :=
  Region.noSelect ops && (List.range ops.size).all fun i => match ops[i]? with
    | none => true
    | some o => o.after.all (fun e => !Region.binds md e || decide (e.on < i)) && (E.contains i || plainOp o) &&
      (List.range i).all fun p => match ops[p]? with
        | none => true
        | some op => (o.after.any (fun e => Region.binds md e && e.on == p) || op.apart ops o)

theorem mixTB_ok (h : mixTB md ops E = true) : MixOkT md ops E := by
  unfold mixTB at h
  simp only [Bool.and_eq_true, List.all_eq_true, List.mem_range] at h
  obtain ⟨hs, h⟩ := h
  have lt : ∀ i o, ops[i]? = some o → i < ops.size := fun i o ho => (Array.getElem?_eq_some_iff.1 ho).1
  have get : ∀ i o, ops[i]? = some o → _ := fun i o ho => by
    have := h i (lt i o ho)
    simp only [ho, Bool.and_eq_true] at this
    exact this
  refine ⟨Region.noSelect_spec hs, ?_, ?_, ?_⟩
  · intro i o ho e he hb
    have := Array.all_eq_true'.1 (get i o ho).1.1 e he
    simp only [hb, Bool.not_true, Bool.false_or, decide_eq_true_eq] at this
    exact this
  · intro i o ho hE
    have := (get i o ho).1.2
    rwa [hE, Bool.false_or] at this
  · intro i o p op ho hp hlt
    have := List.all_eq_true.1 (get i o ho).2 p (List.mem_range.2 hlt)
    simp only [hp, Bool.or_eq_true] at this
    rcases this with h1 | h1
    · obtain ⟨e, he, hb⟩ := Array.any_eq_true'.1 h1
      simp only [Bool.and_eq_true, beq_iff_eq] at hb
      exact .inl ⟨e, he, hb⟩
    · exact .inr h1

/-! ### What descends from what -/
theorem descend_self (i : Nat) : ∀ n, i < n → i ∈ descendB md ops i n
  | 0, h => absurd h (Nat.not_lt_zero _)
  | n + 1, h => by
    unfold descendB
    simp only []
    by_cases e : n = i
    · subst e; simp
    · have := descend_self i n (by omega)
      split
      · exact List.mem_cons_of_mem _ this
      · exact this
theorem descend_edge (topo : ∀ i o, ops[i]? = some o → ∀ e ∈ o.after, Region.binds md e = true → e.on < i) {i p : Nat} {op : Oper} (hp : ops[p]? = some op) (he : ∃ e ∈ op.after, Region.binds md e = true ∧ e.on = i) :
    ∀ n j, j ∈ descendB md ops p n → j ∈ descendB md ops i n
  | 0, j, h => by simp [descendB] at h
  | n + 1, j, h => by
    have IH := descend_edge topo hp he n
    unfold descendB at h ⊢
    simp only [] at h ⊢
    have up : ∀ j, j ∈ descendB md ops i n → j ∈ (if (n == i || ((ops[n]?).map fun o => o.after.any fun e => Region.binds md e && (descendB md ops i n).contains e.on).getD false) = true then n :: descendB md ops i n else descendB md ops i n) := fun j hj => by
      split
      · exact List.mem_cons_of_mem _ hj
      · exact hj
    split at h
    · rename_i hc
      rcases List.mem_cons.1 h with rfl | h
      · simp only [Bool.or_eq_true, beq_iff_eq] at hc
        have key : (((ops[j]?).map fun o => o.after.any fun e => Region.binds md e && (descendB md ops i j).contains e.on).getD false) = true := by
          rcases hc with hc | hc
          · subst hc
            obtain ⟨e, hm, hb, hon⟩ := he
            simp only [hp, Option.map_some, Option.getD_some]
            refine Array.any_eq_true'.2 ⟨e, hm, ?_⟩
            have := topo j op hp e hm hb
            simp only [hb, Bool.true_and, List.contains_iff_mem, hon]
            exact descend_self i j (by omega)
          · cases ho : ops[j]? with
            | none => simp [ho] at hc
            | some o =>
              simp only [ho, Option.map_some, Option.getD_some] at hc ⊢
              obtain ⟨e, hm, hb⟩ := Array.any_eq_true'.1 hc
              simp only [Bool.and_eq_true, List.contains_iff_mem] at hb
              refine Array.any_eq_true'.2 ⟨e, hm, ?_⟩
              simp only [hb.1, Bool.true_and, List.contains_iff_mem]
              exact IH _ hb.2
        simp only [key, Bool.or_true, if_true]
        exact List.mem_cons_self
      · exact up j (IH j h)
    · exact up j (IH j h)

/-! ### The walk as a tree -/
def frontLs (md : Region.Mode) (ops : Array Oper) (U : List Nat) (i : Nat) : List Nat := U.filter fun j => (descendB md ops j ops.size).contains i
def restL (md : Region.Mode) (ops : Array Oper) (U : List Nat) (i : Nat) : List Nat := U.filter fun j => !(descendB md ops j ops.size).contains i
/-- No operation on memory that is left has to come ahead of i. -/
def availB (md : Region.Mode) (ops : Array Oper) (E U : List Nat) (i : Nat) : Bool := U.all fun e => !E.contains e || e == i || !(descendB md ops e ops.size).contains i

def wpT (P : Program) (md : Region.Mode) (ops : Array Oper) (C : World → Prop) (E : List Nat) (R : Act → World → Prop) : Nat → List Nat → Act → World → Prop
  | 0, U, a, w => wpMixI P md ops C E R U a w
  | n + 1, U, a, w => ((∀ i ∈ U, E.contains i = false) → wpMixI P md ops C E R U a w) ∧
      ∀ i ∈ U, E.contains i = true → availB md ops E U i = true → wpMixI P md ops C E (fun a w => wpT P md ops C E R n (restL md ops U i) a w) (frontLs md ops U i) a w
/-- Where the tree ends the operations on memory come one behind the other. -/
def chkT (md : Region.Mode) (ops : Array Oper) (E : List Nat) : Nat → List Nat → Prop
  | 0, U => ∀ i ∈ U, ∀ p ∈ U, p < i → E.contains p = true → E.contains i = true → i ∈ descendB md ops p ops.size
  | n + 1, U => ∀ i ∈ U, E.contains i = true → availB md ops E U i = true → chkT md ops E n (U.filter fun j => j != i)

theorem avail_spec {U : List Nat} {i : Nat} : availB md ops E U i = true ↔ ∀ e ∈ U, E.contains e = true → e ≠ i → i ∉ descendB md ops e ops.size := by
  unfold availB
  simp only [List.all_eq_true, Bool.or_eq_true, Bool.not_eq_true', beq_iff_eq]
  constructor
  · intro h e he hE hne
    rcases h e he with (h1 | h1) | h1
    · rw [hE] at h1; cases h1
    · exact absurd h1 hne
    · simpa using h1
  · intro h e he
    cases hE : E.contains e with
    | false => exact .inl (.inl rfl)
    | true =>
      by_cases hne : e = i
      · exact .inl (.inr hne)
      · exact .inr (by simpa using h e he hE hne)

/-- A plain operation i leaves. -/
theorem avail_drop {U : List Nat} {i e : Nat} (hi : E.contains i = false) (h : availB md ops E (U.filter fun j => j != i) e = true) : availB md ops E U e = true := by
  rw [avail_spec] at h ⊢
  intro x hx hE hne
  refine h x (List.mem_filter.2 ⟨hx, ?_⟩) hE hne
  have : x ≠ i := fun hh => by subst hh; rw [hE] at hi; cases hi
  simpa using this
theorem chk_drop {i : Nat} (hi : E.contains i = false) : ∀ (n : Nat) (U : List Nat), chkT md ops E n U → chkT md ops E n (U.filter fun j => j != i)
  | 0, U, h => fun x hx p hp => h x (List.mem_filter.1 hx).1 p (List.mem_filter.1 hp).1
  | n + 1, U, h => fun x hx hE hav => by
    have h1 := chk_drop hi n _ (h x (List.mem_filter.1 hx).1 hE (avail_drop hi hav))
    rw [List.filter_filter] at h1 ⊢
    have : (fun a => (a != i) && (a != x)) = (fun a => (a != x) && (a != i)) := by funext a; exact Bool.and_comm _ _
    rw [this] at h1
    exact h1

/-- As mix_pickA: the operation lies in what follows. -/
theorem mix_pickG (hsel : selFree ops) {i : Nat} {o : Oper} (ho : ops[i]? = some o) (hp : plainOp o = true) (hR : ∀ a w, C w → R a w → ∃ v, YieldsIn P ops C o v a ∧ R' (a.put o.dst v) w) :
    ∀ (pre : List Nat) (a : Act) (w : World), (∀ p ∈ pre, ∀ op, ops[p]? = some op → (∀ d, op.dst = some d → d ∉ o.looksAt ops) ∧ (∀ d, op.dst = some d → o.dst ≠ some d) ∧ (∀ d, o.dst = some d → d ∉ op.looksAt ops)) → (∀ p ∈ pre, E.contains p = true → openB md ops E p = true) →
      C w → wpMixI P md ops C E R pre a w → ∃ v, YieldsIn P ops C o v a ∧ wpMixI P md ops C E R' pre (a.put o.dst v) w
  | [], a, w, _, _, hC, h => hR a w hC h
  | p :: pre, a, w, hap, hop, hC, h => by
    have hap' := fun q (hq : q ∈ pre) => hap q (List.mem_cons_of_mem _ hq)
    have hop' : ∀ q ∈ pre, E.contains q = true → openB md ops E q = true := fun q hq => hop q (List.mem_cons_of_mem _ hq)
    have IH := mix_pickG hsel ho hp hR pre
    cases hop0 : ops[p]? with
    | none =>
      rw [mix_none hop0] at h
      obtain ⟨v, h1, h2⟩ := IH a w hap' hop' hC h
      exact ⟨v, h1, by rw [mix_none hop0]; exact h2⟩
    | some op =>
      obtain ⟨ap1, ap2, ap3⟩ := hap p List.mem_cons_self op hop0
      have so : ∀ cs b, o.op ≠ .select cs b := fun cs b => hsel i o cs b ho
      have sp : ∀ cs b, op.op ≠ .select cs b := fun cs b => hsel p op cs b hop0
      rw [mix_cons hop0] at h
      have hwv : ∀ v, Region.wanted op (yielded ops (a.put o.dst v).tmps) = Region.wanted op (yielded ops a.tmps) := fun v => wanted_put op a o.dst v ap3
      have ap2' : ∀ t, o.dst = some t → op.dst ≠ some t := fun t ht hh => ap2 t hh ht
      by_cases hw : Region.wanted op (yielded ops a.tmps) = true
      · simp only [hw, if_true] at h
        cases hE : E.contains p with
        | true =>
          simp only [hE, if_true] at h
          have hopen := hop p List.mem_cons_self hE
          obtain ⟨a1, w1, hl1, hc1, hr1⟩ := wp_some h
          obtain ⟨v, hy, _⟩ := IH a1 w1 hap' hop' (hc1 hopen) hr1
          have hyv := (YieldsIn.of_leaves (P := P) (C := C) hl1 so ap1).1 hy
          refine ⟨v, hyv, ?_⟩
          rw [mix_cons hop0]
          simp only [hwv, hw, if_true, hE]
          refine wp_shift (ops := ops) sp ap3 ap2' (fun a' w' hl hk => ⟨hk.1, ?_⟩) h noExit_any
          obtain ⟨u, hyu, hru⟩ := IH a' w' hap' hop' (hk.1 hopen) hk.2
          have e : u = v := YieldsIn.one hp hC ((YieldsIn.of_leaves (P := P) (C := C) hl so ap1).1 hyu) hyv
          rw [← e]; exact hru
        | false =>
          simp only [hE, Bool.false_eq_true, if_false] at h
          obtain ⟨u, hu, hr⟩ := h
          obtain ⟨v, hy, hrv⟩ := IH _ w hap' hop' hC hr
          have hyv := (YieldsIn.of_leaves (P := P) (C := C) ⟨u, a.defers, rfl⟩ so ap1).1 hy
          refine ⟨v, hyv, ?_⟩
          rw [mix_cons hop0]
          simp only [hwv, hw, if_true, hE, Bool.false_eq_true, if_false]
          refine ⟨u, fun w' hw' => ?_, ?_⟩
          · have := hu w' hw'
            unfold Oper.quietAt at *
            rwa [execOp_put op sp a o.dst v ap3]
          · rw [Act.put_comm a v u (fun t ht => ap2' t ht)]; exact hrv
      · simp only [hw, Bool.false_eq_true, if_false] at h
        obtain ⟨v, hy, hrv⟩ := IH _ w hap' hop' hC h
        have hyv := (YieldsIn.of_leaves (P := P) (C := C) ⟨undef, a.defers, rfl⟩ so ap1).1 hy
        refine ⟨v, hyv, ?_⟩
        rw [mix_cons hop0]
        simp only [hwv, hw, Bool.false_eq_true, if_false]
        rw [Act.put_comm a v undef (fun t ht => ap2' t ht)]; exact hrv

/-- A list in the order of the text, cut at one of its members. -/
theorem cut_at {U : List Nat} (hpw : U.Pairwise (· < ·)) {i : Nat} (hi : i ∈ U) : ∃ pre post, U = pre ++ i :: post ∧ (U.filter fun j => j != i) = pre ++ post ∧ ∀ p ∈ pre, p < i := by
  obtain ⟨pre, post, hsplit⟩ := List.append_of_mem hi
  rw [hsplit] at hpw
  have hpre : ∀ p ∈ pre, p < i := fun p hp => (List.pairwise_append.1 hpw).2.2 p hp i List.mem_cons_self
  have hpost : ∀ p ∈ post, i < p := fun p hp => (List.pairwise_cons.1 (List.pairwise_append.1 hpw).2.1).1 p hp
  refine ⟨pre, post, hsplit, ?_, hpre⟩
  rw [hsplit, List.filter_append, List.filter_cons]
  have f1 : pre.filter (fun j => j != i) = pre := List.filter_eq_self.2 fun p hp => by have := hpre p hp; simp; omega
  have f2 : post.filter (fun j => j != i) = post := List.filter_eq_self.2 fun p hp => by have := hpost p hp; simp; omega
  simp [f1, f2]

/-- A plain operation that is ready may be taken first, whatever order is to come. -/
theorem pickT (ok : MixOkT md ops E) {i : Nat} {o : Oper} (ho : ops[i]? = some o) (hi : E.contains i = false) :
    ∀ (n : Nat) (U : List Nat) (a : Act) (w : World), U.Pairwise (· < ·) → i ∈ U → (∀ q ∈ U, q ≠ i → i ∉ descendB md ops q ops.size) → C w → wpT P md ops C E R n U a w →
      ∃ v, YieldsIn P ops C o v a ∧ wpT P md ops C E R n (U.filter fun j => j != i) (a.put o.dst v) w := by
  have hpl := ok.plain i o ho hi
  have hlt : i < ops.size := (Array.getElem?_eq_some_iff.1 ho).1
  have edge : ∀ p op, ops[p]? = some op → p < i → (∃ e ∈ o.after, Region.binds md e = true ∧ e.on = p) → i ∈ descendB md ops p ops.size := fun p op hop _ he => descend_edge ok.topo ho he ops.size i (descend_self i ops.size hlt)
  have opn : ∀ p, p ∉ descendB md ops i ops.size → openB md ops E p = true := fun p hd => by
    unfold openB
    refine List.any_eq_true.2 ⟨i, List.mem_range.2 hlt, ?_⟩
    rw [hi]
    simp [hd]
  -- the flat walk
  have flat : ∀ (K : Act → World → Prop) (U : List Nat) (a : Act) (w : World), U.Pairwise (· < ·) → i ∈ U → (∀ q ∈ U, q ≠ i → i ∉ descendB md ops q ops.size) → C w → wpMixI P md ops C E K U a w →
      ∃ v, YieldsIn P ops C o v a ∧ wpMixI P md ops C E K (U.filter fun j => j != i) (a.put o.dst v) w := fun K U a w hpw him hrd hC h => by
    obtain ⟨pre, post, e1, e2, hpre⟩ := cut_at hpw him
    rw [e2]
    rw [e1] at h
    refine mix_pickA ok.sel ho hi hpl post pre a w (fun p hp op hop => ?_) (fun p hp _ => opn p fun hd => ?_) hC h
    · rcases ok.apart i o p op ho hop (hpre p hp) with he | ha
      · exact absurd (edge p op hop (hpre p hp) he) (hrd p (by rw [e1]; exact List.mem_append_left _ hp) (by have := hpre p hp; omega))
      · exact ha
    · have := descend_ge ok.topo i _ p hd
      have := hpre p hp
      omega
  intro n
  induction n with
  | zero => exact fun U a w hpw him hrd hC h => flat R U a w hpw him hrd hC h
  | succ n ih =>
    intro U a w hpw him hrd hC h
    obtain ⟨h0, h1⟩ := h
    by_cases hex : ∀ e ∈ U, E.contains e = false
    · obtain ⟨v, hy, hr⟩ := flat R U a w hpw him hrd hC (h0 hex)
      exact ⟨v, hy, fun _ => hr, fun e he hE _ => absurd hE (by rw [hex e (List.mem_filter.1 he).1]; decide)⟩
    · -- one branch
      have branch : ∀ e ∈ U, E.contains e = true → availB md ops E U e = true → ∃ v, YieldsIn P ops C o v a ∧ wpMixI P md ops C E (fun a w => wpT P md ops C E R n (restL md ops (U.filter fun j => j != i) e) a w) (frontLs md ops (U.filter fun j => j != i) e) (a.put o.dst v) w := by
        intro e he hE hav
        have hb := h1 e he hE hav
        have cm : ∀ f : Nat → Bool, (U.filter fun j => j != i).filter f = (U.filter f).filter fun j => j != i := fun f => by
          rw [List.filter_filter, List.filter_filter]
          refine List.filter_congr fun x _ => Bool.and_comm _ _
        have nof : ∀ f : Nat → Bool, f i = false → (U.filter f).filter (fun j => j != i) = U.filter f := fun f hf => List.filter_eq_self.2 fun x hx => by
          have h2 := (List.mem_filter.1 hx).2
          have : x ≠ i := fun hh => by subst hh; rw [hf] at h2; cases h2
          simpa using this
        by_cases hin : e ∈ descendB md ops i ops.size
        · have hc : (descendB md ops i ops.size).contains e = true := List.contains_iff_mem.2 hin
          have e1 : restL md ops (U.filter fun j => j != i) e = restL md ops U e := by unfold restL; rw [cm, nof _ (by rw [hc]; rfl)]
          have e2 : frontLs md ops (U.filter fun j => j != i) e = (frontLs md ops U e).filter fun j => j != i := by unfold frontLs; rw [cm]
          rw [e1, e2]
          exact flat _ _ a w (List.Pairwise.filter _ hpw) (List.mem_filter.2 ⟨him, hc⟩) (fun q hq => hrd q (List.mem_filter.1 hq).1) hC hb
        · have hc : (descendB md ops i ops.size).contains e = false := by simpa using hin
          have e1 : restL md ops (U.filter fun j => j != i) e = (restL md ops U e).filter fun j => j != i := by unfold restL; rw [cm]
          have e2 : frontLs md ops (U.filter fun j => j != i) e = frontLs md ops U e := by unfold frontLs; rw [cm, nof _ hc]
          rw [e1, e2]
          refine mix_pickG ok.sel ho hpl (fun a w hC h => ih _ a w (List.Pairwise.filter _ hpw) (List.mem_filter.2 ⟨him, by rw [hc]; rfl⟩) (fun q hq => hrd q (List.mem_filter.1 hq).1) hC h) _ a w (fun p hp op hop => ?_) (fun p hp hEp => opn p fun hd => ?_) hC hb
          · obtain ⟨hpU, hpe⟩ := List.mem_filter.1 hp
            have hpi : p ≠ i := fun hh => by subst hh; rw [hc] at hpe; cases hpe
            rcases Nat.lt_or_gt_of_ne hpi with hlt' | hgt
            · rcases ok.apart i o p op ho hop hlt' with hed | ha
              · exact absurd (edge p op hop hlt' hed) (hrd p hpU hpi)
              · exact Oper.apart_spec ha
            · rcases ok.apart p op i o hop ho hgt with hed | ha
              · exact absurd (descend_edge ok.topo hop hed ops.size e (List.contains_iff_mem.1 hpe)) hin
              · obtain ⟨q1, q2, q3⟩ := Oper.apart_spec ha
                exact ⟨q3, fun d hd hd' => q2 d hd' hd, q1⟩
          · -- the one operation on memory in front is e
            obtain ⟨hpU, hpe⟩ := List.mem_filter.1 hp
            have : p = e := Classical.byContradiction fun hne => (avail_spec.1 hav) p hpU hEp hne (List.contains_iff_mem.1 hpe)
            subst this
            exact hin hd
      -- the first of the text is a branch
      have hexE : ∃ e0 ∈ U, E.contains e0 = true ∧ availB md ops E U e0 = true := by
        have hne : (U.filter fun e => E.contains e) ≠ [] := fun hnil => hex fun e he => by
          cases hE : E.contains e with
          | false => rfl
          | true =>
            have : e ∈ U.filter fun e => E.contains e := List.mem_filter.2 ⟨he, hE⟩
            rw [hnil] at this; cases this
        cases hl : U.filter fun e => E.contains e with
        | nil => exact absurd hl hne
        | cons e0 es =>
          have hm : e0 ∈ U.filter fun e => E.contains e := by rw [hl]; exact List.mem_cons_self
          obtain ⟨hU, hE⟩ := List.mem_filter.1 hm
          refine ⟨e0, hU, hE, avail_spec.2 fun x hx hEx hne hd => ?_⟩
          have hpw2 : (U.filter fun e => E.contains e).Pairwise (· < ·) := List.Pairwise.filter _ hpw
          rw [hl] at hpw2
          have hx2 : x ∈ e0 :: es := by rw [← hl]; exact List.mem_filter.2 ⟨hx, hEx⟩
          rcases List.mem_cons.1 hx2 with rfl | hx3
          · exact hne rfl
          · have h1 := (List.pairwise_cons.1 hpw2).1 x hx3
            have h2 := descend_ge ok.topo x _ e0 hd
            omega
      obtain ⟨e0, he0, hE0, hav0⟩ := hexE
      obtain ⟨v, hy, _⟩ := branch e0 he0 hE0 hav0
      refine ⟨v, hy, fun hno => ?_, fun e he hE hav => ?_⟩
      · have : e0 ≠ i := fun hh => by subst hh; rw [hE0] at hi; cases hi
        have := hno e0 (List.mem_filter.2 ⟨he0, by simpa using this⟩)
        rw [hE0] at this; cases this
      · obtain ⟨v2, hy2, hr2⟩ := branch e (List.mem_filter.1 he).1 hE (avail_drop hi hav)
        have e2 : v2 = v := YieldsIn.one hpl hC hy2 hy
        rw [← e2]; exact hr2

theorem mixT_any (ok : MixOkT md ops E) : ∀ (n : Nat) (listed : Array Bool) (t : Nat) (a : Act) (w : World), (unlB ops listed).length ≤ n → listed.size = ops.size →
    (∀ j oj, ops[j]? = some oj → listed.getD j false = true → ∀ e ∈ oj.after, Region.binds md e = true → listed.getD e.on false = true) →
    (∀ j ∈ unlB ops listed, E.contains j = false → C w) → chkT md ops E t (unlB ops listed) → wpT P md ops C E (fun a w => Q .normal a w) t (unlB ops listed) a w → wpAny P md ops Q n listed a w := by
  have fin : ∀ t a w, wpT P md ops C E (fun a w => Q .normal a w) t [] a w → Q .normal a w := fun t a w h => by
    cases t with
    | zero => exact h
    | succ t => exact h.1 (fun i hi => by cases hi)
  intro n
  induction n with
  | zero =>
    intro listed t a w hlen hsz hcl hC hk h
    have hu : unlB ops listed = [] := List.eq_nil_of_length_eq_zero (Nat.le_zero.1 hlen)
    rw [hu] at h
    refine ⟨?_, fin t a w h⟩
    cases hr : Region.ready md ops listed with
    | nil => rfl
    | cons x xs =>
      have hx : x ∈ Region.ready md ops listed := by rw [hr]; exact List.mem_cons_self
      obtain ⟨h1, o, ho, _⟩ := mem_ready.1 hx
      have : x ∈ unlB ops listed := mem_unl.2 ⟨(Array.getElem?_eq_some_iff.1 ho).1, h1⟩
      rw [hu] at this; cases this
  | succ n ih =>
    intro listed t a w hlen hsz hcl hC hk h
    refine ⟨fun hr => ?_, fun i hi => ?_⟩
    · cases hu : unlB ops listed with
      | nil => rw [hu] at h; exact fin t a w h
      | cons i0 U =>
        exfalso
        have hi0 : i0 ∈ unlB ops listed := by rw [hu]; exact List.mem_cons_self
        obtain ⟨hlt, hun⟩ := mem_unl.1 hi0
        have hpw : (unlB ops listed).Pairwise (· < ·) := List.Pairwise.filter _ List.pairwise_lt_range
        rw [hu, List.pairwise_cons] at hpw
        have : i0 ∈ Region.ready md ops listed := by
          refine mem_ready.2 ⟨hun, ops[i0], by simp [hlt], fun e he hb => ?_⟩
          have hon := ok.topo i0 ops[i0] (by simp [hlt]) e he hb
          cases hl : listed.getD e.on false with
          | true => rfl
          | false =>
            have hm : e.on ∈ unlB ops listed := mem_unl.2 ⟨by omega, getD_in (by omega) hl⟩
            rw [hu] at hm
            rcases List.mem_cons.1 hm with hm | hm
            · omega
            · have := hpw.1 _ hm; omega
        rw [hr] at this; cases this
    · obtain ⟨hun, o, ho, hall⟩ := mem_ready.1 hi
      have hlt : i < ops.size := (Array.getElem?_eq_some_iff.1 ho).1
      have hmem : i ∈ unlB ops listed := mem_unl.2 ⟨hlt, hun⟩
      have hpw : (unlB ops listed).Pairwise (· < ·) := List.Pairwise.filter _ List.pairwise_lt_range
      obtain ⟨pre, post, hsplit, hflt, hpre⟩ := cut_at hpw hmem
      have hsz' : (listed.setIfInBounds i true).size = ops.size := by simp [hsz]
      have hcl' : ∀ j oj, ops[j]? = some oj → (listed.setIfInBounds i true).getD j false = true → ∀ e ∈ oj.after, Region.binds md e = true → (listed.setIfInBounds i true).getD e.on false = true := by
        intro j oj hj hl e he hb
        by_cases hij : i = j
        · subst hij
          have : oj = o := Option.some.inj (hj.symm.trans ho)
          subst this
          exact getD_set_true (hall e he hb)
        · rw [getD_set_ne false hij] at hl
          exact getD_set_true (hcl j oj hj hl e he hb)
      have hu' : unlB ops (listed.setIfInBounds i true) = (unlB ops listed).filter (fun j => j != i) := by
        unfold unlB
        rw [List.filter_filter]
        refine List.filter_congr fun j hj => ?_
        by_cases hij : i = j
        · subst hij
          have : (listed.setIfInBounds i true).getD i true = true := by
            have : i < listed.size := by omega
            simp [this]
          simp [this]
        · rw [getD_set_ne true hij]
          have : (j != i) = true := by simp; exact fun e => hij e.symm
          simp [this]
      have hlen' : (unlB ops (listed.setIfInBounds i true)).length ≤ n := by
        rw [hu', hflt]; rw [hsplit] at hlen; simp at hlen ⊢; omega
      have hnot : ∀ j ∈ unlB ops listed, j ≠ i → i ∉ descendB md ops j ops.size := by
        intro j hj hne hd
        have := (descend_listed hcl j ops.size i hd).2 (fun e => hne e.symm) (fun oj hoj e he hb => by
          have : oj = o := Option.some.inj (hoj.symm.trans ho)
          subst this
          exact hall e he hb)
        rw [getD_both (mem_unl.1 hj).2] at this
        cases this
      have keep : ∀ t a' w', chkT md ops E t ((unlB ops listed).filter fun j => j != i) → (∀ j ∈ (unlB ops listed).filter (fun j => j != i), E.contains j = false → C w') → wpT P md ops C E (fun a w => Q .normal a w) t ((unlB ops listed).filter fun j => j != i) a' w' → wpAny P md ops Q n (listed.setIfInBounds i true) a' w' :=
        fun t a' w' hk' hc hh => ih _ t a' w' hlen' hsz' hcl' (by rw [hu']; exact hc) (by rw [hu']; exact hk') (by rw [hu']; exact hh)
      have hopen : ∀ j ∈ (unlB ops listed).filter (fun j => j != i), E.contains j = false → openB md ops E i = true := by
        intro j hj hEj
        obtain ⟨hjU, hji⟩ := List.mem_filter.1 hj
        have hji' : j ≠ i := by simpa using hji
        unfold openB
        refine List.any_eq_true.2 ⟨j, List.mem_range.2 (mem_unl.1 hjU).1, ?_⟩
        have := hnot j hjU hji'
        rw [hEj]
        simp [this]
      cases hE : E.contains i with
      | false =>
        have hCw := hC i hmem hE
        obtain ⟨v, hy, hr⟩ := pickT ok ho hE t _ a w hpw hmem (fun q hq hne => hnot q hq hne) hCw h
        exact wpOp_of_yields ho (ok.plain i o ho hE) hCw hy (keep t _ _ (chk_drop hE t _ hk) (fun _ _ _ => hCw) hr)
      | true =>
        cases t with
        | zero =>
          have hne : ∀ p ∈ pre, E.contains p = false := by
            intro p hp
            have hpU : p ∈ unlB ops listed := by rw [hsplit]; exact List.mem_append_left _ hp
            cases hEp : E.contains p with
            | false => rfl
            | true => exact absurd (hk i hmem p hpU (hpre p hp) hEp hE) (hnot p hpU (by have := hpre p hp; omega))
          have hap : ∀ p ∈ pre, ∀ op, ops[p]? = some op → op.apart ops o = true := by
            intro p hp op hop
            have hpU : p ∈ unlB ops listed := by rw [hsplit]; exact List.mem_append_left _ hp
            rcases ok.apart i o p op ho hop (hpre p hp) with he | h1
            · exact absurd (descend_edge ok.topo ho he ops.size i (descend_self i ops.size hlt)) (hnot p hpU (by have := hpre p hp; omega))
            · exact h1
          have h' : wpMixI P md ops C E (fun a w => Q .normal a w) (pre ++ i :: post) a w := by rw [← hsplit]; exact h
          have hk0 : chkT md ops E 0 ((unlB ops listed).filter fun j => j != i) := fun x hx p hp => hk x (List.mem_filter.1 hx).1 p (List.mem_filter.1 hp).1
          unfold wpOp
          simp only [ho]
          rcases mix_pickB ok.sel ho hE post pre a w hap hne h' with ⟨h1, h2⟩ | ⟨h1, h2⟩
          · simp only [h1, if_true]
            left
            refine wp_noExit (Oper.wp_mono (fun a' w' hh => keep 0 a' w' hk0 (fun j hj hEj => hh.1 (hopen j hj hEj)) (by rw [hflt]; exact hh.2)) h2)
          · simp only [h1, Bool.false_eq_true, if_false]
            exact keep 0 _ _ hk0 (fun j hj hEj => hC j (List.mem_filter.1 hj).1 hEj) (by rw [hflt]; exact h2)
        | succ t =>
          have hav : availB md ops E (unlB ops listed) i = true := avail_spec.2 fun e he _ hne => hnot e he hne
          have hb := h.2 i hmem hE hav
          have hk' := hk i hmem hE hav
          have hf : frontLs md ops (unlB ops listed) i = [i] := by
            have e1 : frontLs md ops (unlB ops listed) i = (unlB ops listed).filter fun j => j == i := by
              unfold frontLs
              refine List.filter_congr fun j hj => ?_
              by_cases hji : j = i
              · subst hji
                simp [descend_self j ops.size hlt]
              · have := hnot j hj hji
                simp [this, hji]
            rw [e1, hsplit, List.filter_append, List.filter_cons]
            have hpost : ∀ p ∈ post, i < p := fun p hp => by
              rw [hsplit] at hpw
              exact (List.pairwise_cons.1 (List.pairwise_append.1 hpw).2.1).1 p hp
            have f1 : pre.filter (fun j => j == i) = [] := List.filter_eq_nil_iff.2 fun p hp => by have := hpre p hp; simp; omega
            have f2 : post.filter (fun j => j == i) = [] := List.filter_eq_nil_iff.2 fun p hp => by have := hpost p hp; simp; omega
            simp [f1, f2]
          have hr : restL md ops (unlB ops listed) i = (unlB ops listed).filter fun j => j != i := by
            unfold restL
            refine List.filter_congr fun j hj => ?_
            by_cases hji : j = i
            · subst hji
              simp [descend_self j ops.size hlt]
            · have := hnot j hj hji
              simp [this, hji]
          rw [hf, hr, mix_cons ho] at hb
          unfold wpOp
          simp only [ho]
          by_cases hw : Region.wanted o (yielded ops a.tmps) = true
          · simp only [hw, if_true, hE] at hb ⊢
            left
            refine wp_noExit (Oper.wp_mono (fun a' w' hh => keep t a' w' hk' (fun j hj hEj => hh.1 (hopen j hj hEj)) hh.2) hb)
          · simp only [hw, Bool.false_eq_true, if_false] at hb ⊢
            exact keep t _ _ hk' (fun j hj hEj => hC j (List.mem_filter.1 hj).1 hEj) hb

/-! ### What the walks use -/
def flatP (ps : List (Nat × Nat)) : List Nat := ps.flatMap fun p => List.range' p.1 p.2
/-- Stretches of the text, one behind the other. -/
def wpPs (P : Program) (l : List Oper) (C : World → Prop) (E : List Nat) (K : Act → World → Prop) : List (Nat × Nat) → Act → World → Prop
  | [], a, w => K a w
  | p :: ps, a, w => wpMix P l.toArray C E (fun _ a w => wpPs P l C E K ps a w) p.1 ((l.drop p.1).take p.2) a w
theorem wpPs_nil {l : List Oper} {K : Act → World → Prop} {a : Act} {w : World} (h : K a w) : wpPs P l C E K [] a w := h
theorem wpPs_cons {l : List Oper} {K : Act → World → Prop} {k m : Nat} {ps : List (Nat × Nat)} {a : Act} {w : World} (h : wpMix P l.toArray C E (fun _ a w => wpPs P l C E K ps a w) k ((l.drop k).take m) a w) : wpPs P l C E K ((k, m) :: ps) a w := h
def inL (n : Nat) (ps : List (Nat × Nat)) : Bool := ps.all fun p => decide (p.1 + p.2 ≤ n)
theorem mixI_of_ps {l : List Oper} {K : Act → World → Prop} : ∀ (ps : List (Nat × Nat)) (a : Act) (w : World), inL l.length ps = true → wpPs P l C E K ps a w → wpMixI P .any l.toArray C E K (flatP ps) a w
  | [], a, w, _, h => h
  | p :: ps, a, w, hb, h => by
    have hb' : p.1 + p.2 ≤ l.length ∧ inL l.length ps = true := by
      unfold inL at hb ⊢
      simpa using hb
    show wpMixI P .any l.toArray C E K (List.range' p.1 p.2 ++ flatP ps) a w
    exact wpMixI_append _ _ _ _ (wpMixI_mono (fun a w h => mixI_of_ps ps a w hb'.2 h) _ _ _ (seg_of p.1 p.2 hb'.1 h))
theorem wpT_leaf {l : List Oper} {ps : List (Nat × Nat)} {a : Act} {w : World} (hb : inL l.length ps = true) (h : wpPs P l C E R ps a w) : wpT P .any l.toArray C E R 0 (flatP ps) a w := mixI_of_ps ps a w hb h

abbrev Pcs := List (Nat × Nat)
def nodeB (l : List Oper) (E : List Nat) (us : Pcs) (brs : List (Pcs × Pcs)) : Bool :=
  (flatP us).any (fun i => E.contains i) && ((flatP us).filter fun i => E.contains i && availB .any l.toArray E (flatP us) i).map (fun i => (frontLs .any l.toArray (flatP us) i, restL .any l.toArray (flatP us) i)) == brs.map (fun b => (flatP b.1, flatP b.2)) &&
    brs.all fun b => inL l.length b.1
theorem wpT_node {l : List Oper} {us : Pcs} {n : Nat} {a : Act} {w : World} (brs : List (Pcs × Pcs)) (hc : nodeB l E us brs = true) (hb : ∀ b ∈ brs, wpPs P l C E (fun a w => wpT P .any l.toArray C E R n (flatP b.2) a w) b.1 a w) : wpT P .any l.toArray C E R (n + 1) (flatP us) a w := by
  unfold nodeB at hc
  rw [Bool.and_eq_true, Bool.and_eq_true, beq_iff_eq] at hc
  obtain ⟨⟨hany, hm⟩, hin'⟩ := hc
  obtain ⟨i0, hi0, hE0⟩ := List.any_eq_true.1 hany
  have hin := List.all_eq_true.1 hin'
  refine ⟨fun hno => absurd (hno i0 hi0) (by rw [hE0]; decide), fun i hi hE hav => ?_⟩
  have h1 : (frontLs .any l.toArray (flatP us) i, restL .any l.toArray (flatP us) i) ∈ brs.map (fun b => (flatP b.1, flatP b.2)) := by
    rw [← hm]
    exact List.mem_map.2 ⟨i, List.mem_filter.2 ⟨hi, by rw [hE, hav]; rfl⟩, rfl⟩
  obtain ⟨b, hbm, he⟩ := List.mem_map.1 h1
  have e1 : flatP b.1 = frontLs .any l.toArray (flatP us) i := congrArg Prod.fst he
  have e2 : flatP b.2 = restL .any l.toArray (flatP us) i := congrArg Prod.snd he
  rw [← e1, ← e2]
  exact mixI_of_ps b.1 a w (hin b hbm) (hb b hbm)
theorem wpT_node1 {l : List Oper} {us : Pcs} {n : Nat} {a : Act} {w : World} (f1 r1 : Pcs) (hc : nodeB l E us [(f1, r1)] = true) (h1 : wpPs P l C E (fun a w => wpT P .any l.toArray C E R n (flatP r1) a w) f1 a w) : wpT P .any l.toArray C E R (n + 1) (flatP us) a w :=
  wpT_node _ hc (by intro b hb; simp only [List.mem_cons, List.not_mem_nil, or_false] at hb; rw [hb]; exact h1)
theorem wpT_node2 {l : List Oper} {us : Pcs} {n : Nat} {a : Act} {w : World} (f1 r1 f2 r2 : Pcs) (hc : nodeB l E us [(f1, r1), (f2, r2)] = true) (h1 : wpPs P l C E (fun a w => wpT P .any l.toArray C E R n (flatP r1) a w) f1 a w)
    (h2 : wpPs P l C E (fun a w => wpT P .any l.toArray C E R n (flatP r2) a w) f2 a w) : wpT P .any l.toArray C E R (n + 1) (flatP us) a w :=
  wpT_node _ hc (by intro b hb; simp only [List.mem_cons, List.not_mem_nil, or_false] at hb; rcases hb with e | e <;> rw [e]; exact h1; exact h2)
theorem wpT_node3 {l : List Oper} {us : Pcs} {n : Nat} {a : Act} {w : World} (f1 r1 f2 r2 f3 r3 : Pcs) (hc : nodeB l E us [(f1, r1), (f2, r2), (f3, r3)] = true) (h1 : wpPs P l C E (fun a w => wpT P .any l.toArray C E R n (flatP r1) a w) f1 a w)
    (h2 : wpPs P l C E (fun a w => wpT P .any l.toArray C E R n (flatP r2) a w) f2 a w) (h3 : wpPs P l C E (fun a w => wpT P .any l.toArray C E R n (flatP r3) a w) f3 a w) : wpT P .any l.toArray C E R (n + 1) (flatP us) a w :=
  wpT_node _ hc (by intro b hb; simp only [List.mem_cons, List.not_mem_nil, or_false] at hb; rcases hb with e | e | e <;> rw [e]; exact h1; exact h2; exact h3)

def chkTB (md : Region.Mode) (ops : Array Oper) (E : List Nat) : Nat → List Nat → Bool
  | 0, U => U.all fun i => !E.contains i || U.all fun p => !(decide (p < i) && E.contains p) || (descendB md ops p ops.size).contains i
  | n + 1, U => U.all fun i => !(E.contains i && availB md ops E U i) || chkTB md ops E n (U.filter fun j => j != i)
theorem chkTB_ok : ∀ (n : Nat) (U : List Nat), chkTB md ops E n U = true → chkT md ops E n U
  | 0, U, h => fun i hi p hp hlt hEp hE => by
    unfold chkTB at h
    have h1 := List.all_eq_true.1 h i hi
    rw [hE] at h1
    have h2 := List.all_eq_true.1 (by simpa using h1 : (U.all fun p => !(decide (p < i) && E.contains p) || (descendB md ops p ops.size).contains i) = true) p hp
    rw [hEp, decide_eq_true hlt] at h2
    simpa using h2
  | n + 1, U, h => fun i hi hE hav => by
    unfold chkTB at h
    have h1 := List.all_eq_true.1 h i hi
    rw [hE, hav] at h1
    exact chkTB_ok n _ (by simpa using h1)

theorem wp_region_mixT {id : Nat} {a : Act} {w : World} {l : List Oper} (E : List Nat) (C : World → Prop) (t : Nat) (n : Nat) (hn : l.length = n) (hm : P.follows .mixedOrders = true) (hB : mixTB .any l.toArray E = true) (hk : chkTB .any l.toArray E t (List.range n) = true) (hC : C w.drew)
    (h : wpT P .any l.toArray C E (fun a w => Q .normal a w) t (flatP [(0, n)]) a w.drew) : (Code.region id l.toArray true).wp P Q a w := by
  have ok := mixTB_ok hB
  subst hn
  have hfl : flatP [(0, l.length)] = List.range l.length := by rw [List.range_eq_range']; show List.range' 0 l.length ++ [] = _; rw [List.append_nil]
  rw [hfl] at h
  have hu : unlB l.toArray (Array.replicate l.toArray.size false) = List.range l.length := by
    unfold unlB
    rw [List.filter_eq_self.2]
    · simp
    · intro i hi
      have hi' : i < l.length := by simpa using hi
      simp [hi']
  refine wp_region_any hm (mixT_any (C := C) (E := E) ok _ _ t a _ ?_ (by simp) ?_ ?_ ?_ ?_)
  · rw [hu]; simp
  · intro j oj _ hl
    rw [getD_replicate_false] at hl; cases hl
  · intro _ _ _; exact hC
  · rw [hu]; exact chkTB_ok _ _ hk
  · rw [hu]; exact h
end Mix4
end Go.Proofs.Ytiiljelhhdklnaa
