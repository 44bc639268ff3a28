
/- As Mix, where one pair of the operations on memory may come in either order: one walk for each of the two. -/
import Derived.Test.YtgehkioneelgcaaJCua
namespace Go.Proofs.Ytgehkioneelgcaa
open Go.RowKit

section Mix3
variable {P : Program} {ops : Array Oper} {C : World → Prop} {Q : Exit → Act → World → Prop} {md : Region.Mode} {E : List Nat} {R : Act → World → Prop} {U : List Nat} {pos : Nat → Nat} {free : Nat → Nat → Bool}

def unlU (U : List Nat) (listed : Array Bool) : List Nat := U.filter fun i => !listed.getD i true
theorem mem_unlU {listed : Array Bool} {i : Nat} : i ∈ unlU U listed ↔ i ∈ U ∧ listed.getD i true = false := by
  simp [unlU]

structure MixOkU (md : Region.Mode) (ops : Array Oper) (E U : List Nat) (pos : Nat → Nat) (free : Nat → Nat → Bool) : Prop where
  sel : selFree ops
  mem : ∀ i, i ∈ U ↔ i < ops.size
  pw : U.Pairwise (fun x y => pos x < pos y)
  topo : ∀ i o, ops[i]? = some o → ∀ e ∈ o.after, Region.binds md e = true → e.on < i
  topoP : ∀ i o, ops[i]? = some o → ∀ e ∈ o.after, Region.binds md e = true → pos e.on < pos i
  plain : ∀ i o, ops[i]? = some o → E.contains i = false → plainOp o = true
  apart : ∀ i o p op, ops[i]? = some o → ops[p]? = some op → pos p < pos i → (∃ e ∈ o.after, Region.binds md e = true ∧ e.on = p) ∨ op.apart ops o = true
  chain : ∀ i o p op, ops[i]? = some o → ops[p]? = some op → pos p < pos i → E.contains p = true → E.contains i = true → free p i = false → i ∈ descendB md ops p ops.size

theorem descend_pos (ht : ∀ i o, ops[i]? = some o → ∀ e ∈ o.after, Region.binds md e = true → pos e.on < pos i) (i : Nat) : ∀ n, ∀ j ∈ descendB md ops i n, pos i ≤ pos j
  | 0, j, h => by simp [descendB] at h
  | n + 1, j, h => by
    have IH := descend_pos ht i n
    unfold descendB at h
    simp only [] at h
    split at h
    · rename_i hc
      rcases List.mem_cons.1 h with rfl | h
      · simp only [Bool.or_eq_true, beq_iff_eq] at hc
        rcases hc with rfl | hc
        · exact Nat.le_refl _
        · cases ho : ops[j]? with
          | none => simp [ho] at hc
          | some o =>
            simp only [ho, Option.map_some, Option.getD_some] at hc
            obtain ⟨e, he, hb⟩ := Array.any_eq_true'.1 hc
            simp only [Bool.and_eq_true, List.contains_iff_mem] at hb
            have h1 := ht j o ho e he hb.1
            have h2 := IH _ hb.2
            omega
      · exact IH j h
    · exact IH j h

theorem mixU_any (ok : MixOkU md ops E U pos free) : ∀ (n : Nat) (listed : Array Bool) (a : Act) (w : World), (unlU U listed).length ≤ n → listed.size = ops.size → (∀ p ∈ unlU U listed, ∀ i ∈ unlU U listed, free p i = false) →
    (∀ j oj, ops[j]? = some oj → listed.getD j false = true → ∀ e ∈ oj.after, Region.binds md e = true → listed.getD e.on false = true) →
    (∀ j ∈ unlU U listed, E.contains j = false → C w) → wpMixI P md ops C E (fun a w => Q .normal a w) (unlU U listed) a w → wpAny P md ops Q n listed a w := by
  intro n
  induction n with
  | zero =>
    intro listed a w hlen hsz hfree hcl hC h
    have hu : unlU U listed = [] := List.eq_nil_of_length_eq_zero (Nat.le_zero.1 hlen)
    rw [hu] at h
    refine ⟨?_, h⟩
    cases hr : Region.ready md ops listed with
    | nil => rfl
    | cons x xs =>
      have hx : x ∈ Region.ready md ops listed := by rw [hr]; exact List.mem_cons_self
      obtain ⟨h1, o, ho, _⟩ := mem_ready.1 hx
      have : x ∈ unlU U listed := mem_unlU.2 ⟨(ok.mem _).2 (Array.getElem?_eq_some_iff.1 ho).1, h1⟩
      rw [hu] at this; cases this
  | succ n ih =>
    intro listed a w hlen hsz hfree hcl hC h
    refine ⟨fun hr => ?_, fun i hi => ?_⟩
    · -- nothing may come up: nothing is left
      cases hu : unlU U listed with
      | nil => rw [hu] at h; exact h
      | cons i0 U0 =>
        exfalso
        have hi0 : i0 ∈ unlU U listed := by rw [hu]; exact List.mem_cons_self
        obtain ⟨hlt0, hun⟩ := mem_unlU.1 hi0
        have hlt := (ok.mem _).1 hlt0
        have hpw : (unlU U listed).Pairwise (fun x y => pos x < pos y) := List.Pairwise.filter _ ok.pw
        rw [hu, List.pairwise_cons] at hpw
        have : i0 ∈ Region.ready md ops listed := by
          refine mem_ready.2 ⟨hun, ops[i0], by simp [hlt], fun e he hb => ?_⟩
          have hon := ok.topo i0 ops[i0] (by simp [hlt]) e he hb
          have hop := ok.topoP i0 ops[i0] (by simp [hlt]) e he hb
          cases hl : listed.getD e.on false with
          | true => rfl
          | false =>
            have hm : e.on ∈ unlU U listed := mem_unlU.2 ⟨(ok.mem _).2 (by omega), getD_in (by omega) hl⟩
            rw [hu] at hm
            rcases List.mem_cons.1 hm with hm | hm
            · rw [hm] at hop; exact absurd hop (Nat.lt_irrefl _)
            · have := hpw.1 _ hm; omega
        rw [hr] at this; cases this
    · obtain ⟨hun, o, ho, hall⟩ := mem_ready.1 hi
      have hlt : i < ops.size := (Array.getElem?_eq_some_iff.1 ho).1
      have hmem : i ∈ unlU U listed := mem_unlU.2 ⟨(ok.mem _).2 hlt, hun⟩
      obtain ⟨pre, post, hsplit⟩ := List.append_of_mem hmem
      have hpw : (unlU U listed).Pairwise (fun x y => pos x < pos y) := List.Pairwise.filter _ ok.pw
      rw [hsplit] at hpw
      have hpre : ∀ p ∈ pre, pos p < pos i := fun p hp => (List.pairwise_append.1 hpw).2.2 p hp i List.mem_cons_self
      have hpost : ∀ p ∈ post, pos i < pos p := fun p hp => (List.pairwise_cons.1 (List.pairwise_append.1 hpw).2.1).1 p hp
      have hunp : ∀ p ∈ pre, listed.getD p true = false := fun p hp => (mem_unlU.1 (by rw [hsplit]; exact List.mem_append_left _ hp)).2
      have hap : ∀ p ∈ pre, ∀ op, ops[p]? = some op → op.apart ops o = true := by
        intro p hp op hop
        rcases ok.apart i o p op ho hop (hpre p hp) with ⟨e, he, hb, hon⟩ | h1
        · have h2 := hall e he hb
          rw [hon, getD_both (hunp p hp)] at h2
          cases h2
        · exact h1
      have hsz' : (listed.setIfInBounds i true).size = ops.size := by simp [hsz]
      have hcl' : ∀ j oj, ops[j]? = some oj → (listed.setIfInBounds i true).getD j false = true → ∀ e ∈ oj.after, Region.binds md e = true → (listed.setIfInBounds i true).getD e.on false = true := by
        intro j oj hj hl e he hb
        by_cases hij : i = j
        · subst hij
          have : oj = o := Option.some.inj (hj.symm.trans ho)
          subst this
          exact getD_set_true (hall e he hb)
        · rw [getD_set_ne false hij] at hl
          exact getD_set_true (hcl j oj hj hl e he hb)
      have hu' : unlU U (listed.setIfInBounds i true) = pre ++ post := by
        have e1 : unlU U (listed.setIfInBounds i true) = (unlU U listed).filter (fun j => j != i) := by
          unfold unlU
          rw [List.filter_filter]
          refine List.filter_congr fun j hj => ?_
          by_cases hij : i = j
          · subst hij
            have : (listed.setIfInBounds i true).getD i true = true := by
              have : i < listed.size := by omega
              simp [this]
            simp [this]
          · rw [getD_set_ne true hij]
            have : (j != i) = true := by simp; exact fun e => hij e.symm
            simp [this]
        rw [e1, hsplit, List.filter_append, List.filter_cons]
        have f1 : pre.filter (fun j => j != i) = pre := List.filter_eq_self.2 fun p hp => by have := hpre p hp; simp; intro e; subst e; omega
        have f2 : post.filter (fun j => j != i) = post := List.filter_eq_self.2 fun p hp => by have := hpost p hp; simp; intro e; subst e; omega
        simp [f1, f2]
      have hlen' : (unlU U (listed.setIfInBounds i true)).length ≤ n := by
        rw [hu']; rw [hsplit] at hlen; simp at hlen ⊢; omega
      have hun' : ∀ j ∈ pre ++ post, j ≠ i ∧ listed.getD j true = false := by
        intro j hj
        rcases List.mem_append.1 hj with hj | hj
        · exact ⟨by have := hpre j hj; intro e; subst e; omega, hunp j hj⟩
        · exact ⟨by have := hpost j hj; intro e; subst e; omega, (mem_unlU.1 (by rw [hsplit]; exact List.mem_append_right _ (List.mem_cons_of_mem _ hj))).2⟩
      have hnot : ∀ j, j ≠ i → listed.getD j true = false → i ∉ descendB md ops j ops.size := by
        intro j hne hl hd
        have := (descend_listed hcl j ops.size i hd).2 (fun e => hne e.symm) (fun oj hoj e he hb => by
          have : oj = o := Option.some.inj (hoj.symm.trans ho)
          subst this
          exact hall e he hb)
        rw [getD_both hl] at this
        cases this
      have hsub : ∀ p ∈ pre ++ post, p ∈ unlU U listed := by
        intro p hp
        rw [hsplit]
        rcases List.mem_append.1 hp with hp | hp
        · exact List.mem_append_left _ hp
        · exact List.mem_append_right _ (List.mem_cons_of_mem _ hp)
      rw [hsplit] at h
      have keep : ∀ a' w', (∀ j ∈ pre ++ post, E.contains j = false → C w') → wpMixI P md ops C E (fun a w => Q .normal a w) (pre ++ post) a' w' → wpAny P md ops Q n (listed.setIfInBounds i true) a' w' :=
        fun a' w' hc hh => ih _ a' w' hlen' hsz' (by rw [hu']; intro p hp q hq; exact hfree p (hsub p hp) q (hsub q hq)) hcl' (by rw [hu']; exact hc) (by rw [hu']; exact hh)
      cases hE : E.contains i with
      | false =>
        have hCw := hC i hmem hE
        have hopen : ∀ p ∈ pre, E.contains p = true → openB md ops E p = true := by
          intro p hp _
          unfold openB
          refine List.any_eq_true.2 ⟨i, List.mem_range.2 hlt, ?_⟩
          rw [hE]
          have : p ∉ descendB md ops i ops.size := fun hd => by have := descend_pos ok.topoP i _ p hd; have := hpre p hp; omega
          simp [this]
        obtain ⟨v, hy, hr⟩ := mix_pickA ok.sel ho hE (ok.plain i o ho hE) post pre a w hap hopen hCw h
        exact wpOp_of_yields ho (ok.plain i o ho hE) hCw hy (keep _ _ (fun _ _ _ => hCw) hr)
      | true =>
        have hne : ∀ p ∈ pre, E.contains p = false := by
          intro p hp
          cases hEp : E.contains p with
          | false => rfl
          | true =>
            have hplt : p < ops.size := (ok.mem _).1 (mem_unlU.1 (hsub p (List.mem_append_left _ hp))).1
            have := ok.chain i o p ops[p] ho (by simp [hplt]) (hpre p hp) hEp hE (hfree p (hsub p (List.mem_append_left _ hp)) i hmem)
            exact absurd this (hnot p (by have := hpre p hp; intro e; subst e; omega) (hunp p hp))
        unfold wpOp
        simp only [ho]
        rcases mix_pickB ok.sel ho hE post pre a w hap hne h with ⟨h1, h2⟩ | ⟨h1, h2⟩
        · simp only [h1, if_true]
          left
          refine wp_noExit (Oper.wp_mono (fun a' w' hh => keep a' w' (fun j hj hEj => hh.1 ?_) hh.2) h2)
          unfold openB
          obtain ⟨hji, hjl⟩ := hun' j hj
          have hjlt : j < ops.size := by
            have : j ∈ unlU U listed := by
              rw [hsplit]
              rcases List.mem_append.1 hj with hj | hj
              · exact List.mem_append_left _ hj
              · exact List.mem_append_right _ (List.mem_cons_of_mem _ hj)
            exact (ok.mem _).1 (mem_unlU.1 this).1
          refine List.any_eq_true.2 ⟨j, List.mem_range.2 hjlt, ?_⟩
          have := hnot j hji hjl
          rw [hEj]
          simp [this]
        · simp only [h1, Bool.false_eq_true, if_false]
          refine keep _ _ (fun j hj hEj => hC j ?_ hEj) h2
          rw [hsplit]
          rcases List.mem_append.1 hj with hj | hj
          · exact List.mem_append_left _ hj
          · exact List.mem_append_right _ (List.mem_cons_of_mem _ hj)


/-- One operation of a drawn order: what is left of the list. -/
theorem unlU_set (ok : MixOkU md ops E U pos free) {listed : Array Bool} {i : Nat} {o : Oper} (hi : i ∈ Region.ready md ops listed) (ho : ops[i]? = some o) (hsz : listed.size = ops.size) :
    ∃ pre post, unlU U listed = pre ++ i :: post ∧ unlU U (listed.setIfInBounds i true) = pre ++ post ∧ (∀ p ∈ pre, pos p < pos i) ∧ (∀ p ∈ post, pos i < pos p) ∧ (∀ p ∈ pre, ∀ op, ops[p]? = some op → op.apart ops o = true) := by
  obtain ⟨hun, o', ho', hall⟩ := mem_ready.1 hi
  obtain rfl : o' = o := Option.some.inj (ho'.symm.trans ho)
  have hlt : i < ops.size := (Array.getElem?_eq_some_iff.1 ho).1
  have hmem : i ∈ unlU U listed := mem_unlU.2 ⟨(ok.mem _).2 hlt, hun⟩
  obtain ⟨pre, post, hsplit⟩ := List.append_of_mem hmem
  have hpw : (unlU U listed).Pairwise (fun x y => pos x < pos y) := List.Pairwise.filter _ ok.pw
  rw [hsplit] at hpw
  have hpre : ∀ p ∈ pre, pos p < pos i := fun p hp => (List.pairwise_append.1 hpw).2.2 p hp i List.mem_cons_self
  have hpost : ∀ p ∈ post, pos i < pos p := fun p hp => (List.pairwise_cons.1 (List.pairwise_append.1 hpw).2.1).1 p hp
  have hunp : ∀ p ∈ pre, listed.getD p true = false := fun p hp => (mem_unlU.1 (by rw [hsplit]; exact List.mem_append_left _ hp)).2
  refine ⟨pre, post, hsplit, ?_, hpre, hpost, ?_⟩
  · have e1 : unlU U (listed.setIfInBounds i true) = (unlU U listed).filter (fun j => j != i) := by
      unfold unlU
      rw [List.filter_filter]
      refine List.filter_congr fun j hj => ?_
      by_cases hij : i = j
      · subst hij
        have : (listed.setIfInBounds i true).getD i true = true := by
          have : i < listed.size := by omega
          simp [this]
        simp [this]
      · rw [getD_set_ne true hij]
        have : (j != i) = true := by simp; exact fun e => hij e.symm
        simp [this]
    rw [e1, hsplit, List.filter_append, List.filter_cons]
    have f1 : pre.filter (fun j => j != i) = pre := List.filter_eq_self.2 fun p hp => by have := hpre p hp; simp; intro e; subst e; omega
    have f2 : post.filter (fun j => j != i) = post := List.filter_eq_self.2 fun p hp => by have := hpost p hp; simp; intro e; subst e; omega
    simp [f1, f2]
  · intro p hp op hop
    rcases ok.apart i o' p op ho hop (hpre p hp) with ⟨e, he, hb, hon⟩ | h1
    · have h2 := hall e he hb
      rw [hon, getD_both (hunp p hp)] at h2
      cases h2
    · exact h1

theorem not_descend {listed : Array Bool} {i : Nat} (hcl : ∀ j oj, ops[j]? = some oj → listed.getD j false = true → ∀ e ∈ oj.after, Region.binds md e = true → listed.getD e.on false = true)
    (hi : i ∈ Region.ready md ops listed) : ∀ j, j ≠ i → listed.getD j true = false → i ∉ descendB md ops j ops.size := by
  obtain ⟨hun, o, ho, hall⟩ := mem_ready.1 hi
  intro j hne hl hd
  have := (descend_listed hcl j ops.size i hd).2 (fun e => hne e.symm) (fun oj hoj e he hb => by
    have : oj = o := Option.some.inj (hoj.symm.trans ho)
    subst this
    exact hall e he hb)
  rw [getD_both hl] at this
  cases this

/-- A drawn operation on memory, where none of the list stands ahead of it. -/
theorem stepU_E (ok : MixOkU md ops E U pos free) {n : Nat} {listed : Array Bool} {i : Nat} {o : Oper} {a : Act} {w : World} (hi : i ∈ Region.ready md ops listed) (ho : ops[i]? = some o) (hsz : listed.size = ops.size)
    (hcl : ∀ j oj, ops[j]? = some oj → listed.getD j false = true → ∀ e ∈ oj.after, Region.binds md e = true → listed.getD e.on false = true)
    (hC : ∀ j ∈ unlU U listed, E.contains j = false → C w) (hE : E.contains i = true) (hne : ∀ p ∈ unlU U listed, pos p < pos i → E.contains p = false)
    (h : wpMixI P md ops C E R (unlU U listed) a w)
    (keep : ∀ a' w', (∀ j ∈ unlU U (listed.setIfInBounds i true), E.contains j = false → C w') → wpMixI P md ops C E R (unlU U (listed.setIfInBounds i true)) a' w' → wpAny P md ops Q n (listed.setIfInBounds i true) a' w') :
    wpOp P ops Q i (fun a' w' => wpAny P md ops Q n (listed.setIfInBounds i true) a' w') a w := by
  obtain ⟨pre, post, hsplit, hu', hpre, hpost, hap⟩ := unlU_set ok hi ho hsz
  rw [hsplit] at h
  have hmemi : ∀ j ∈ pre ++ post, j ∈ unlU U listed ∧ j ≠ i := by
    intro j hj
    rw [hsplit]
    rcases List.mem_append.1 hj with hj | hj
    · exact ⟨List.mem_append_left _ hj, by have := hpre j hj; intro e; subst e; omega⟩
    · exact ⟨List.mem_append_right _ (List.mem_cons_of_mem _ hj), by have := hpost j hj; intro e; subst e; omega⟩
  unfold wpOp
  simp only [ho]
  rcases mix_pickB ok.sel ho hE post pre a w hap (fun p hp => hne p (hmemi p (List.mem_append_left _ hp)).1 (hpre p hp)) h with ⟨h1, h2⟩ | ⟨h1, h2⟩
  · simp only [h1, if_true]
    left
    refine wp_noExit (Oper.wp_mono (fun a' w' hh => keep a' w' (fun j hj hEj => hh.1 ?_) (by rw [hu']; exact hh.2)) h2)
    rw [hu'] at hj
    obtain ⟨hm, hji⟩ := hmemi j hj
    obtain ⟨hmU, hjl⟩ := mem_unlU.1 hm
    unfold openB
    refine List.any_eq_true.2 ⟨j, List.mem_range.2 ((ok.mem _).1 hmU), ?_⟩
    have := not_descend hcl hi j hji hjl
    rw [hEj]
    simp [this]
  · simp only [h1, Bool.false_eq_true, if_false]
    refine keep _ _ (fun j hj hEj => hC j ?_ hEj) (by rw [hu']; exact h2)
    rw [hu'] at hj
    exact (hmemi j hj).1
/-- A drawn operation that only loads. -/
theorem stepU_plain (ok : MixOkU md ops E U pos free) {listed : Array Bool} {i : Nat} {o : Oper} {a : Act} {w : World} (hi : i ∈ Region.ready md ops listed) (ho : ops[i]? = some o) (hsz : listed.size = ops.size)
    (hC : ∀ j ∈ unlU U listed, E.contains j = false → C w) (hE : E.contains i = false) (h : wpMixI P md ops C E R (unlU U listed) a w) :
    C w ∧ ∃ v, YieldsIn P ops C o v a ∧ wpMixI P md ops C E R (unlU U (listed.setIfInBounds i true)) (a.put o.dst v) w := by
  obtain ⟨pre, post, hsplit, hu', hpre, hpost, hap⟩ := unlU_set ok hi ho hsz
  have hlt : i < ops.size := (Array.getElem?_eq_some_iff.1 ho).1
  have hCw := hC i (by rw [hsplit]; exact List.mem_append_right _ List.mem_cons_self) hE
  rw [hsplit] at h
  have hopen : ∀ p ∈ pre, E.contains p = true → openB md ops E p = true := by
    intro p hp _
    unfold openB
    refine List.any_eq_true.2 ⟨i, List.mem_range.2 hlt, ?_⟩
    rw [hE]
    have : p ∉ descendB md ops i ops.size := fun hd => by have := descend_pos ok.topoP i _ p hd; have := hpre p hp; omega
    simp [this]
  obtain ⟨v, hy, hr⟩ := mix_pickA ok.sel ho hE (ok.plain i o ho hE) post pre a w hap hopen hCw h
  exact ⟨hCw, v, hy, by rw [hu']; exact hr⟩

def freeP (x y p i : Nat) : Bool := (p == x && i == y) || (p == y && i == x)
theorem freeP_left {x y p i : Nat} (h : p ≠ x ∧ i ≠ x) : freeP x y p i = false := by
  unfold freeP; simp [h.1, h.2]
theorem freeP_right {x y p i : Nat} (h : p ≠ y ∧ i ≠ y) : freeP x y p i = false := by
  unfold freeP; simp [h.1, h.2]

theorem mix2o_any {U1 U2 : List Nat} {pos1 pos2 : Nat → Nat} {x y : Nat} (oa : MixOkU md ops E U1 pos1 (freeP x y)) (ob : MixOkU md ops E U2 pos2 (freeP x y)) (hxy : x ≠ y) (hxs : x < ops.size) (hys : y < ops.size) (hx : E.contains x = true) (hy : E.contains y = true)
    (hp1 : pos1 x < pos1 y) (hp2 : pos2 y < pos2 x) (late : ∀ e, e < ops.size → E.contains e = true → e ≠ x → e ≠ y → e ∈ descendB md ops x ops.size ∧ e ∈ descendB md ops y ops.size) :
    ∀ (n : Nat) (listed : Array Bool) (a : Act) (w : World), (unlU U1 listed).length ≤ n → (unlU U2 listed).length ≤ n → listed.size = ops.size → listed.getD x true = false → listed.getD y true = false →
    (∀ j oj, ops[j]? = some oj → listed.getD j false = true → ∀ e ∈ oj.after, Region.binds md e = true → listed.getD e.on false = true) →
    (∀ j, j < ops.size → listed.getD j true = false → E.contains j = false → C w) → wpMixI P md ops C E (fun a w => Q .normal a w) (unlU U1 listed) a w → wpMixI P md ops C E (fun a w => Q .normal a w) (unlU U2 listed) a w → wpAny P md ops Q n listed a w := by
  intro n
  induction n with
  | zero =>
    intro listed a w hlen _ _ hlx _ _ _ _ _
    have : x ∈ unlU U1 listed := mem_unlU.2 ⟨(oa.mem _).2 hxs, hlx⟩
    rw [List.eq_nil_of_length_eq_zero (Nat.le_zero.1 hlen)] at this
    cases this
  | succ n ih =>
    intro listed a w hlen hlen2 hsz hlx hly hcl hC h1 h2
    have hC1 : ∀ j ∈ unlU U1 listed, E.contains j = false → C w := fun j hj hE => hC j ((oa.mem _).1 (mem_unlU.1 hj).1) (mem_unlU.1 hj).2 hE
    have hC2 : ∀ j ∈ unlU U2 listed, E.contains j = false → C w := fun j hj hE => hC j ((ob.mem _).1 (mem_unlU.1 hj).1) (mem_unlU.1 hj).2 hE
    refine ⟨fun hr => ?_, fun i hi => ?_⟩
    · exfalso
      cases hu : unlU U1 listed with
      | nil =>
        have : x ∈ unlU U1 listed := mem_unlU.2 ⟨(oa.mem _).2 hxs, hlx⟩
        rw [hu] at this; cases this
      | cons i0 U0 =>
        have hi0 : i0 ∈ unlU U1 listed := by rw [hu]; exact List.mem_cons_self
        obtain ⟨hlt0, hun⟩ := mem_unlU.1 hi0
        have hlt := (oa.mem _).1 hlt0
        have hpw : (unlU U1 listed).Pairwise (fun x y => pos1 x < pos1 y) := List.Pairwise.filter _ oa.pw
        rw [hu, List.pairwise_cons] at hpw
        have : i0 ∈ Region.ready md ops listed := by
          refine mem_ready.2 ⟨hun, ops[i0], by simp [hlt], fun e he hb => ?_⟩
          have hon := oa.topo i0 ops[i0] (by simp [hlt]) e he hb
          have hop := oa.topoP i0 ops[i0] (by simp [hlt]) e he hb
          cases hl : listed.getD e.on false with
          | true => rfl
          | false =>
            have hm : e.on ∈ unlU U1 listed := mem_unlU.2 ⟨(oa.mem _).2 (by omega), getD_in (by omega) hl⟩
            rw [hu] at hm
            rcases List.mem_cons.1 hm with hm | hm
            · rw [hm] at hop; exact absurd hop (Nat.lt_irrefl _)
            · have := hpw.1 _ hm; omega
        rw [hr] at this; cases this
    · obtain ⟨hun, o, ho, hall⟩ := mem_ready.1 hi
      have hlt : i < ops.size := (Array.getElem?_eq_some_iff.1 ho).1
      have hsz' : (listed.setIfInBounds i true).size = ops.size := by simp [hsz]
      have hcl' : ∀ j oj, ops[j]? = some oj → (listed.setIfInBounds i true).getD j false = true → ∀ e ∈ oj.after, Region.binds md e = true → (listed.setIfInBounds i true).getD e.on false = true := by
        intro j oj hj hl e he hb
        by_cases hij : i = j
        · subst hij
          have : oj = o := Option.some.inj (hj.symm.trans ho)
          subst this
          exact getD_set_true (hall e he hb)
        · rw [getD_set_ne false hij] at hl
          exact getD_set_true (hcl j oj hj hl e he hb)
      have hset : ∀ j, (listed.setIfInBounds i true).getD j true = false → listed.getD j true = false ∧ j ≠ i := by
        intro j hj
        by_cases hij : i = j
        · subst hij
          have : (listed.setIfInBounds i true).getD i true = true := by
            have : i < listed.size := by omega
            simp [this]
          rw [this] at hj; cases hj
        · rw [getD_set_ne true hij] at hj
          exact ⟨hj, fun e => hij e.symm⟩
      have hlenU : ∀ {U : List Nat} {pos : Nat → Nat}, MixOkU md ops E U pos (freeP x y) → (unlU U listed).length ≤ n + 1 → (unlU U (listed.setIfInBounds i true)).length ≤ n := by
        intro U pos ok hl
        obtain ⟨pre, post, e1, e2, _⟩ := unlU_set ok hi ho hsz
        rw [e2]; rw [e1] at hl; simp at hl ⊢; omega
      have hnot := not_descend hcl hi
      by_cases hix : i = x
      · subst hix
        refine stepU_E oa hi ho hsz hcl hC1 hx (fun p hp hpp => ?_) h1 (fun a' w' hc hh => ?_)
        · cases hEp : E.contains p with
          | false => rfl
          | true =>
            obtain ⟨hpU, hpl⟩ := mem_unlU.1 hp
            by_cases hpy : p = y
            · subst hpy; omega
            · have := descend_pos oa.topoP i _ p (late p ((oa.mem _).1 hpU) hEp (fun e => by subst e; omega) hpy).1
              omega
        · refine mixU_any oa n _ a' w' (hlenU oa hlen) hsz' ?_ hcl' hc hh
          intro p hp q hq
          exact freeP_left ⟨(hset p (mem_unlU.1 hp).2).2, (hset q (mem_unlU.1 hq).2).2⟩
      · by_cases hiy : i = y
        · subst hiy
          refine stepU_E ob hi ho hsz hcl hC2 hy (fun p hp hpp => ?_) h2 (fun a' w' hc hh => ?_)
          · cases hEp : E.contains p with
            | false => rfl
            | true =>
              obtain ⟨hpU, hpl⟩ := mem_unlU.1 hp
              by_cases hpx : p = x
              · subst hpx; omega
              · have := descend_pos ob.topoP i _ p (late p ((ob.mem _).1 hpU) hEp hpx (fun e => by subst e; omega)).2
                omega
          · refine mixU_any ob n _ a' w' (hlenU ob hlen2) hsz' ?_ hcl' hc hh
            intro p hp q hq
            exact freeP_right ⟨(hset p (mem_unlU.1 hp).2).2, (hset q (mem_unlU.1 hq).2).2⟩
        · cases hE : E.contains i with
          | true => exact absurd (late i hlt hE hix hiy).1 (hnot x (fun e => hix e.symm) hlx)
          | false =>
            obtain ⟨hCw, v, hv, hr1⟩ := stepU_plain oa hi ho hsz hC1 hE h1
            obtain ⟨_, v2, hv2, hr2⟩ := stepU_plain ob hi ho hsz hC2 hE h2
            have hvv : v = v2 := YieldsIn.one (oa.plain i o ho hE) hCw hv hv2
            subst hvv
            refine wpOp_of_yields ho (oa.plain i o ho hE) hCw hv (ih _ _ _ (hlenU oa hlen) (hlenU ob hlen2) hsz' ?_ ?_ hcl' (fun j hj hjl hEj => hC j hj (hset j hjl).1 hEj) hr1 hr2)
            · rw [getD_set_ne true (fun e => hix e)]; exact hlx
            · rw [getD_set_ne true (fun e => hiy e)]; exact hly

def okUB (md : Region.Mode) (ops : Array Oper) (E : List Nat) (pos : Nat → Nat) (x y : Nat) : Bool :=
  Region.noSelect ops && (List.range ops.size).all fun i => match ops[i]? with
    | none => true
    | some o => o.after.all (fun e => !Region.binds md e || (decide (e.on < i) && decide (pos e.on < pos i))) && (E.contains i || plainOp o) &&
      (List.range ops.size).all fun p => match ops[p]? with
        | none => true
        | some op => !decide (pos p < pos i) || ((o.after.any (fun e => Region.binds md e && e.on == p) || op.apart ops o) &&
          (!(E.contains p && E.contains i) || freeP x y p i || (descendB md ops p ops.size).contains i))
theorem okUB_ok {x y : Nat} (h : okUB md ops E pos x y = true) (mem : ∀ i, i ∈ U ↔ i < ops.size) (pw : U.Pairwise (fun a b => pos a < pos b)) : MixOkU md ops E U pos (freeP x y) := by
  unfold okUB at h
  simp only [Bool.and_eq_true, List.all_eq_true, List.mem_range] at h
  obtain ⟨hs, h⟩ := h
  have lt : ∀ i o, ops[i]? = some o → i < ops.size := fun i o ho => (Array.getElem?_eq_some_iff.1 ho).1
  have get : ∀ i o, ops[i]? = some o → _ := fun i o ho => by
    have := h i (lt i o ho)
    simp only [ho, Bool.and_eq_true] at this
    exact this
  have both : ∀ i o, ops[i]? = some o → ∀ e ∈ o.after, Region.binds md e = true → e.on < i ∧ pos e.on < pos i := by
    intro i o ho e he hb
    have := Array.all_eq_true'.1 (get i o ho).1.1 e he
    simpa [hb] using this
  have prs : ∀ i o p op, ops[i]? = some o → ops[p]? = some op → pos p < pos i → ((o.after.any (fun e => Region.binds md e && e.on == p) || op.apart ops o) &&
          (!(E.contains p && E.contains i) || freeP x y p i || (descendB md ops p ops.size).contains i)) = true := by
    intro i o p op ho hp hlt
    have := List.all_eq_true.1 (get i o ho).2 p (List.mem_range.2 (lt p op hp))
    simp only [hp, hlt, decide_true, Bool.not_true, Bool.false_or] at this
    exact this
  refine ⟨Region.noSelect_spec hs, mem, pw, fun i o ho e he hb => (both i o ho e he hb).1, fun i o ho e he hb => (both i o ho e he hb).2, ?_, ?_, ?_⟩
  · intro i o ho hE
    have := (get i o ho).1.2
    rwa [hE, Bool.false_or] at this
  · intro i o p op ho hp hlt
    have := prs i o p op ho hp hlt
    simp only [Bool.and_eq_true, Bool.or_eq_true] at this
    rcases this.1 with h1 | h1
    · obtain ⟨e, he, hb⟩ := Array.any_eq_true'.1 h1
      simp only [Bool.and_eq_true, beq_iff_eq] at hb
      exact .inl ⟨e, he, hb⟩
    · exact .inr h1
  · intro i o p op ho hp hlt h1 h2 hf
    have := prs i o p op ho hp hlt
    simp only [Bool.and_eq_true] at this
    have h3 := this.2
    rw [h1, h2, hf] at h3
    simpa using h3

/-- Where the operations stand once two stretches have changed places. -/
def swapPos (i1 i2 i3 j : Nat) : Nat := if j < i1 then j else if j < i2 then j + (i3 - i2) else if j < i3 then j - (i2 - i1) else j
def swapSeq (i1 i2 i3 n : Nat) : List Nat := List.range' 0 i1 ++ (List.range' i2 (i3 - i2) ++ (List.range' i1 (i2 - i1) ++ List.range' i3 (n - i3)))
theorem pw_seg (f : Nat → Nat) (k m : Nat) (h : ∀ a b, k ≤ a → a < b → b < k + m → f a < f b) : (List.range' k m).Pairwise (fun a b => f a < f b) := by
  refine List.Pairwise.imp_of_mem (fun {a b} ha hb hab => ?_) (List.pairwise_lt_range' (s := k) (n := m))
  have h1 := List.mem_range'_1.1 ha
  have h2 := List.mem_range'_1.1 hb
  exact h a b h1.1 hab h2.2
theorem swap_mem {i1 i2 i3 n : Nat} (h1 : i1 ≤ i2) (h2 : i2 ≤ i3) (h3 : i3 ≤ n) (i : Nat) : i ∈ swapSeq i1 i2 i3 n ↔ i < n := by
  simp only [swapSeq, List.mem_append, List.mem_range'_1]
  omega
theorem swap_pw {i1 i2 i3 n : Nat} (h1 : i1 ≤ i2) (h2 : i2 ≤ i3) (h3 : i3 ≤ n) : (swapSeq i1 i2 i3 n).Pairwise (fun a b => swapPos i1 i2 i3 a < swapPos i1 i2 i3 b) := by
  have fA : ∀ a, a < i1 → swapPos i1 i2 i3 a = a := fun a h => if_pos h
  have fB : ∀ a, i1 ≤ a → a < i2 → swapPos i1 i2 i3 a = a + (i3 - i2) := fun a h h' => by unfold swapPos; rw [if_neg (by omega), if_pos h']
  have fC : ∀ a, i2 ≤ a → a < i3 → swapPos i1 i2 i3 a = a - (i2 - i1) := fun a h h' => by unfold swapPos; rw [if_neg (by omega), if_neg (by omega), if_pos h']
  have fD : ∀ a, i3 ≤ a → swapPos i1 i2 i3 a = a := fun a h => by unfold swapPos; rw [if_neg (by omega), if_neg (by omega), if_neg (by omega)]
  unfold swapSeq
  refine List.pairwise_append.2 ⟨pw_seg _ _ _ (fun a b h h' h'' => by rw [fA a (by omega), fA b (by omega)]; exact h'), List.pairwise_append.2 ⟨pw_seg _ _ _ (fun a b h h' h'' => by rw [fC a (by omega) (by omega), fC b (by omega) (by omega)]; omega),
    List.pairwise_append.2 ⟨pw_seg _ _ _ (fun a b h h' h'' => by rw [fB a (by omega) (by omega), fB b (by omega) (by omega)]; omega), pw_seg _ _ _ (fun a b h h' h'' => by rw [fD a (by omega), fD b (by omega)]; exact h'), ?_⟩, ?_⟩, ?_⟩
  · intro a ha b hb
    have h1 := List.mem_range'_1.1 ha
    have h2 := List.mem_range'_1.1 hb
    rw [fB a (by omega) (by omega), fD b (by omega)]; omega
  · intro a ha b hb
    have h1 := List.mem_range'_1.1 ha
    rcases List.mem_append.1 hb with hb | hb
    · have h2 := List.mem_range'_1.1 hb
      rw [fC a (by omega) (by omega), fB b (by omega) (by omega)]; omega
    · have h2 := List.mem_range'_1.1 hb
      rw [fC a (by omega) (by omega), fD b (by omega)]; omega
  · intro a ha b hb
    have h1 := List.mem_range'_1.1 ha
    rw [fA a (by omega)]
    rcases List.mem_append.1 hb with hb | hb
    · have h2 := List.mem_range'_1.1 hb
      rw [fC b (by omega) (by omega)]; omega
    · rcases List.mem_append.1 hb with hb | hb
      · have h2 := List.mem_range'_1.1 hb
        rw [fB b (by omega) (by omega)]; omega
      · have h2 := List.mem_range'_1.1 hb
        rw [fD b (by omega)]; omega

def swapB (md : Region.Mode) (ops : Array Oper) (E : List Nat) (i1 i2 i3 x y : Nat) : Bool :=
  okUB md ops E (fun j => j) x y && okUB md ops E (swapPos i1 i2 i3) x y && decide (i1 ≤ x) && decide (x < i2) && decide (i2 ≤ y) && decide (y < i3) && decide (i3 ≤ ops.size) && E.contains x && E.contains y &&
    (List.range ops.size).all fun e => !E.contains e || e == x || e == y || ((descendB md ops x ops.size).contains e && (descendB md ops y ops.size).contains e)

theorem wpMixI_append : ∀ (us bs : List Nat) (a : Act) (w : World), wpMixI P md ops C E (fun a w => wpMixI P md ops C E R bs a w) us a w → wpMixI P md ops C E R (us ++ bs) a w
  | [], _, _, _, h => h
  | i :: us, bs, a, w, h => by
    have IH := wpMixI_append us bs
    cases ho : ops[i]? with
    | none =>
      rw [mix_none ho] at h
      rw [List.cons_append, mix_none ho]
      exact IH a w h
    | some o =>
      rw [mix_cons ho] at h
      rw [List.cons_append, mix_cons ho]
      split
      · rename_i hw
        rw [if_pos hw] at h
        split
        · rename_i hE
          rw [if_pos hE] at h
          exact Oper.wp_mono (fun a' w' hh => ⟨hh.1, IH _ _ hh.2⟩) h
        · rename_i hE
          rw [if_neg hE] at h
          exact Oper.quiet_mono (fun a' hh => IH _ _ hh) h
      · rename_i hw
        rw [if_neg hw] at h
        exact IH _ _ h

theorem wpMixI_mono {R' : Act → World → Prop} (hR : ∀ a w, R a w → R' a w) : ∀ (U : List Nat) (a : Act) (w : World), wpMixI P md ops C E R U a w → wpMixI P md ops C E R' U a w
  | [], a, w, h => hR a w h
  | i :: U, a, w, h => by
    have IH := wpMixI_mono hR U
    cases ho : ops[i]? with
    | none => rw [mix_none ho] at h ⊢; exact IH a w h
    | some o =>
      rw [mix_cons ho] at h ⊢
      split
      · rename_i hw
        rw [if_pos hw] at h
        split
        · rename_i hE
          rw [if_pos hE] at h
          exact Oper.wp_mono (fun a' w' hh => ⟨hh.1, IH _ _ hh.2⟩) h
        · rename_i hE
          rw [if_neg hE] at h
          exact Oper.quiet_mono (fun a' hh => IH _ _ hh) h
      · rename_i hw
        rw [if_neg hw] at h
        exact IH _ _ h

/-- A stretch of the text. -/
theorem seg_of {l : List Oper} (k m : Nat) (hk : k + m ≤ l.length) {Q' : Exit → Act → World → Prop} {a : Act} {w : World} (h : wpMix P l.toArray C E Q' k ((l.drop k).take m) a w) : wpMixI P .any l.toArray C E (fun a w => Q' .normal a w) (List.range' k m) a w := by
  have e : ((l.drop k).take m).length = m := by simp; omega
  have := wpMixI_of_wpMix ((l.drop k).take m) k a w (fun j hj => by
    rw [e] at hj
    rw [List.getElem?_take, if_pos hj, List.getElem?_drop]
    simp) h
  rwa [e] at this

theorem wp_region_mix_swap {id : Nat} {a : Act} {w : World} {l : List Oper} (E : List Nat) (C : World → Prop) (i1 i2 i3 x y : Nat) (hm : P.follows .mixedOrders = true) (hB : swapB .any l.toArray E i1 i2 i3 x y = true) (hC : C w.drew)
    (h1 : wpMix P l.toArray C E Q 0 l a w.drew)
    (h2 : wpMix P l.toArray C E (fun _ a w => wpMix P l.toArray C E (fun _ a w => wpMix P l.toArray C E (fun _ a w => wpMix P l.toArray C E Q i3 (l.drop i3) a w) i1 ((l.drop i1).take (i2 - i1)) a w) i2 ((l.drop i2).take (i3 - i2)) a w) 0 ((l.drop 0).take i1) a w.drew) :
    (Code.region id l.toArray true).wp P Q a w := by
  unfold swapB at hB
  simp only [Bool.and_eq_true, decide_eq_true_eq, List.all_eq_true, List.mem_range] at hB
  obtain ⟨⟨⟨⟨⟨⟨⟨⟨⟨ha, hb⟩, q1⟩, q2⟩, q3⟩, q4⟩, q5⟩, hx⟩, hy⟩, hl⟩ := hB
  have hsz : l.toArray.size = l.length := by simp
  rw [hsz] at q5
  have oa := okUB_ok (U := List.range' 0 l.length) ha (fun i => by rw [List.mem_range'_1, hsz]; omega) (pw_seg _ _ _ (fun a b _ h _ => h))
  have ob := okUB_ok (U := swapSeq i1 i2 i3 l.length) hb (fun i => by rw [hsz]; exact swap_mem (by omega) (by omega) q5 i) (swap_pw (by omega) (by omega) q5)
  have hu1 : unlU (List.range' 0 l.length) (Array.replicate l.toArray.size false) = List.range' 0 l.length := by
    unfold unlU
    rw [List.filter_eq_self.2]
    intro i hi
    have hi' : i < l.length := by have := List.mem_range'_1.1 hi; omega
    simp [hi']
  have hu2 : unlU (swapSeq i1 i2 i3 l.length) (Array.replicate l.toArray.size false) = swapSeq i1 i2 i3 l.length := by
    unfold unlU
    rw [List.filter_eq_self.2]
    intro i hi
    have hi' : i < l.length := (swap_mem (by omega) (by omega) q5 i).1 hi
    simp [hi']
  refine wp_region_any hm (mix2o_any (C := C) (E := E) oa ob (by omega) (by rw [hsz]; omega) (by rw [hsz]; omega) hx hy (by omega) ?_ ?_ _ _ a _ ?_ ?_ (by simp) ?_ ?_ ?_ ?_ ?_ ?_)
  · show swapPos i1 i2 i3 y < swapPos i1 i2 i3 x
    unfold swapPos
    rw [if_neg (by omega), if_neg (by omega), if_pos (by omega), if_neg (by omega), if_pos (by omega)]
    omega
  · intro e he hE hex hey
    have := hl e he
    simp only [hE, Bool.not_true, Bool.false_or, Bool.or_eq_true, beq_iff_eq, Bool.and_eq_true, List.contains_iff_mem] at this
    rcases this with (h | h) | h
    · exact absurd h hex
    · exact absurd h hey
    · exact h
  · rw [hu1]; simp
  · rw [hu2]; simp [swapSeq]; omega
  · have : x < l.length := by omega
    simp [this]
  · have : y < l.length := by omega
    simp [this]
  · intro j oj _ hl
    rw [getD_replicate_false] at hl; cases hl
  · intro _ _ _ _; exact hC
  · rw [hu1]
    exact wpMixI_of_wpMix l 0 a _ (fun j hj => by simp) h1
  · rw [hu2]
    refine wpMixI_append _ _ _ _ (wpMixI_mono (fun a w h => wpMixI_append _ _ _ _ (wpMixI_mono (fun a w h => wpMixI_append _ _ _ _ (wpMixI_mono (fun a w h => seg_of i3 (l.length - i3) (by omega) (by rw [List.take_of_length_le (by simp)]; exact h)) _ _ _ (seg_of i1 (i2 - i1) (by omega) h))) _ _ _ (seg_of i2 (i3 - i2) (by omega) h))) _ _ _ (seg_of 0 i1 (by omega) h2))
end Mix3
end Go.Proofs.Ytgehkioneelgcaa
