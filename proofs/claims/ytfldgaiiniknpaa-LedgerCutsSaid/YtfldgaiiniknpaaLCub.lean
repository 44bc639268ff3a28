/- Texts put together: Mix3, SealPut3, Bits2, SealGet, SealGet2, SealAl, Init, SealRec, SR, Nor, Nor2. -/
import Derived.Test.YtfldgaiiniknpaaLCua
import Derived.Deep.LoopGhost
import Derived.Laws.BitsAllLaws
import Derived.Lib.Strings
import Derived.Test.YtfldgaiiniknpaaRows
import Derived.ProofKit
import Derived.Deep.Strs
import Derived.Lib.Hide

/- As Mix, where one pair of the operations on memory may come in either order: one walk for each of the two. -/
namespace Go.Proofs.Ytfldgaiiniknpaa
open Go.RowKit

section Mix3
variable {P : Program} {ops : Array Oper} {C : World → Prop} {Q : Exit → Act → World → Prop} {md : Region.Mode} {E : List Nat} {R : Act → World → Prop} {U : List Nat} {pos : Nat → Nat} {free : Nat → Nat → Bool}

def unlU (U : List Nat) (listed : Array Bool) : List Nat := U.filter fun i => !listed.getD i true
theorem mem_unlU {listed : Array Bool} {i : Nat} : i ∈ unlU U listed ↔ i ∈ U ∧ listed.getD i true = false := by
  simp [unlU]

structure MixOkU (md : Region.Mode) (ops : Array Oper) (E U : List Nat) (pos : Nat → Nat) (free : Nat → Nat → Bool) : Prop where
  sel : selFree ops
  mem : ∀ i, i ∈ U ↔ i < ops.size
  pw : U.Pairwise (fun x y => pos x < pos y)
  topo : ∀ i o, ops[i]? = some o → ∀ e ∈ o.after, Region.binds md e = true → e.on < i
  topoP : ∀ i o, ops[i]? = some o → ∀ e ∈ o.after, Region.binds md e = true → pos e.on < pos i
  plain : ∀ i o, ops[i]? = some o → E.contains i = false → plainOp o = true
  apart : ∀ i o p op, ops[i]? = some o → ops[p]? = some op → pos p < pos i → (∃ e ∈ o.after, Region.binds md e = true ∧ e.on = p) ∨ op.apart ops o = true
  chain : ∀ i o p op, ops[i]? = some o → ops[p]? = some op → pos p < pos i → E.contains p = true → E.contains i = true → free p i = false → i ∈ descendB md ops p ops.size

theorem descend_pos (ht : ∀ i o, ops[i]? = some o → ∀ e ∈ o.after, Region.binds md e = true → pos e.on < pos i) (i : Nat) : ∀ n, ∀ j ∈ descendB md ops i n, pos i ≤ pos j
  | 0, j, h => by simp [descendB] at h
  | n + 1, j, h => by
    have IH := descend_pos ht i n
    unfold descendB at h
    simp only [] at h
    split at h
    · rename_i hc
      rcases List.mem_cons.1 h with rfl | h
      · simp only [Bool.or_eq_true, beq_iff_eq] at hc
        rcases hc with rfl | hc
        · exact Nat.le_refl _
        · cases ho : ops[j]? with
          | none => simp [ho] at hc
          | some o =>
            simp only [ho, Option.map_some, Option.getD_some] at hc
            obtain ⟨e, he, hb⟩ := Array.any_eq_true'.1 hc
            simp only [Bool.and_eq_true, List.contains_iff_mem] at hb
            have h1 := ht j o ho e he hb.1
            have h2 := IH _ hb.2
            omega
      · exact IH j h
    · exact IH j h

theorem mixU_any (ok : MixOkU md ops E U pos free) : ∀ (n : Nat) (listed : Array Bool) (a : Act) (w : World), (unlU U listed).length ≤ n → listed.size = ops.size → (∀ p ∈ unlU U listed, ∀ i ∈ unlU U listed, free p i = false) →
    (∀ j oj, ops[j]? = some oj → listed.getD j false = true → ∀ e ∈ oj.after, Region.binds md e = true → listed.getD e.on false = true) →
    (∀ j ∈ unlU U listed, E.contains j = false → C w) → wpMixI P md ops C E (fun a w => Q .normal a w) (unlU U listed) a w → wpAny P md ops Q n listed a w := by
  intro n
  induction n with
  | zero =>
    intro listed a w hlen hsz hfree hcl hC h
    have hu : unlU U listed = [] := List.eq_nil_of_length_eq_zero (Nat.le_zero.1 hlen)
    rw [hu] at h
    refine ⟨?_, h⟩
    cases hr : Region.ready md ops listed with
    | nil => rfl
    | cons x xs =>
      have hx : x ∈ Region.ready md ops listed := by rw [hr]; exact List.mem_cons_self
      obtain ⟨h1, o, ho, _⟩ := mem_ready.1 hx
      have : x ∈ unlU U listed := mem_unlU.2 ⟨(ok.mem _).2 (Array.getElem?_eq_some_iff.1 ho).1, h1⟩
      rw [hu] at this; cases this
  | succ n ih =>
    intro listed a w hlen hsz hfree hcl hC h
    refine ⟨fun hr => ?_, fun i hi => ?_⟩
    · -- nothing may come up: nothing is left
      cases hu : unlU U listed with
      | nil => rw [hu] at h; exact h
      | cons i0 U0 =>
        exfalso
        have hi0 : i0 ∈ unlU U listed := by rw [hu]; exact List.mem_cons_self
        obtain ⟨hlt0, hun⟩ := mem_unlU.1 hi0
        have hlt := (ok.mem _).1 hlt0
        have hpw : (unlU U listed).Pairwise (fun x y => pos x < pos y) := List.Pairwise.filter _ ok.pw
        rw [hu, List.pairwise_cons] at hpw
        have : i0 ∈ Region.ready md ops listed := by
          refine mem_ready.2 ⟨hun, ops[i0], by simp [hlt], fun e he hb => ?_⟩
          have hon := ok.topo i0 ops[i0] (by simp [hlt]) e he hb
          have hop := ok.topoP i0 ops[i0] (by simp [hlt]) e he hb
          cases hl : listed.getD e.on false with
          | true => rfl
          | false =>
            have hm : e.on ∈ unlU U listed := mem_unlU.2 ⟨(ok.mem _).2 (by omega), getD_in (by omega) hl⟩
            rw [hu] at hm
            rcases List.mem_cons.1 hm with hm | hm
            · rw [hm] at hop; exact absurd hop (Nat.lt_irrefl _)
            · have := hpw.1 _ hm; omega
        rw [hr] at this; cases this
    · obtain ⟨hun, o, ho, hall⟩ := mem_ready.1 hi
      have hlt : i < ops.size := (Array.getElem?_eq_some_iff.1 ho).1
      have hmem : i ∈ unlU U listed := mem_unlU.2 ⟨(ok.mem _).2 hlt, hun⟩
      obtain ⟨pre, post, hsplit⟩ := List.append_of_mem hmem
      have hpw : (unlU U listed).Pairwise (fun x y => pos x < pos y) := List.Pairwise.filter _ ok.pw
      rw [hsplit] at hpw
      have hpre : ∀ p ∈ pre, pos p < pos i := fun p hp => (List.pairwise_append.1 hpw).2.2 p hp i List.mem_cons_self
      have hpost : ∀ p ∈ post, pos i < pos p := fun p hp => (List.pairwise_cons.1 (List.pairwise_append.1 hpw).2.1).1 p hp
      have hunp : ∀ p ∈ pre, listed.getD p true = false := fun p hp => (mem_unlU.1 (by rw [hsplit]; exact List.mem_append_left _ hp)).2
      have hap : ∀ p ∈ pre, ∀ op, ops[p]? = some op → op.apart ops o = true := by
        intro p hp op hop
        rcases ok.apart i o p op ho hop (hpre p hp) with ⟨e, he, hb, hon⟩ | h1
        · have h2 := hall e he hb
          rw [hon, getD_both (hunp p hp)] at h2
          cases h2
        · exact h1
      have hsz' : (listed.setIfInBounds i true).size = ops.size := by simp [hsz]
      have hcl' : ∀ j oj, ops[j]? = some oj → (listed.setIfInBounds i true).getD j false = true → ∀ e ∈ oj.after, Region.binds md e = true → (listed.setIfInBounds i true).getD e.on false = true := by
        intro j oj hj hl e he hb
        by_cases hij : i = j
        · subst hij
          have : oj = o := Option.some.inj (hj.symm.trans ho)
          subst this
          exact getD_set_true (hall e he hb)
        · rw [getD_set_ne false hij] at hl
          exact getD_set_true (hcl j oj hj hl e he hb)
      have hu' : unlU U (listed.setIfInBounds i true) = pre ++ post := by
        have e1 : unlU U (listed.setIfInBounds i true) = (unlU U listed).filter (fun j => j != i) := by
          unfold unlU
          rw [List.filter_filter]
          refine List.filter_congr fun j hj => ?_
          by_cases hij : i = j
          · subst hij
            have : (listed.setIfInBounds i true).getD i true = true := by
              have : i < listed.size := by omega
              simp [this]
            simp [this]
          · rw [getD_set_ne true hij]
            have : (j != i) = true := by simp; exact fun e => hij e.symm
            simp [this]
        rw [e1, hsplit, List.filter_append, List.filter_cons]
        have f1 : pre.filter (fun j => j != i) = pre := List.filter_eq_self.2 fun p hp => by have := hpre p hp; simp; intro e; subst e; omega
        have f2 : post.filter (fun j => j != i) = post := List.filter_eq_self.2 fun p hp => by have := hpost p hp; simp; intro e; subst e; omega
        simp [f1, f2]
      have hlen' : (unlU U (listed.setIfInBounds i true)).length ≤ n := by
        rw [hu']; rw [hsplit] at hlen; simp at hlen ⊢; omega
      have hun' : ∀ j ∈ pre ++ post, j ≠ i ∧ listed.getD j true = false := by
        intro j hj
        rcases List.mem_append.1 hj with hj | hj
        · exact ⟨by have := hpre j hj; intro e; subst e; omega, hunp j hj⟩
        · exact ⟨by have := hpost j hj; intro e; subst e; omega, (mem_unlU.1 (by rw [hsplit]; exact List.mem_append_right _ (List.mem_cons_of_mem _ hj))).2⟩
      have hnot : ∀ j, j ≠ i → listed.getD j true = false → i ∉ descendB md ops j ops.size := by
        intro j hne hl hd
        have := (descend_listed hcl j ops.size i hd).2 (fun e => hne e.symm) (fun oj hoj e he hb => by
          have : oj = o := Option.some.inj (hoj.symm.trans ho)
          subst this
          exact hall e he hb)
        rw [getD_both hl] at this
        cases this
      have hsub : ∀ p ∈ pre ++ post, p ∈ unlU U listed := by
        intro p hp
        rw [hsplit]
        rcases List.mem_append.1 hp with hp | hp
        · exact List.mem_append_left _ hp
        · exact List.mem_append_right _ (List.mem_cons_of_mem _ hp)
      rw [hsplit] at h
      have keep : ∀ a' w', (∀ j ∈ pre ++ post, E.contains j = false → C w') → wpMixI P md ops C E (fun a w => Q .normal a w) (pre ++ post) a' w' → wpAny P md ops Q n (listed.setIfInBounds i true) a' w' :=
        fun a' w' hc hh => ih _ a' w' hlen' hsz' (by rw [hu']; intro p hp q hq; exact hfree p (hsub p hp) q (hsub q hq)) hcl' (by rw [hu']; exact hc) (by rw [hu']; exact hh)
      cases hE : E.contains i with
      | false =>
        have hCw := hC i hmem hE
        have hopen : ∀ p ∈ pre, E.contains p = true → openB md ops E p = true := by
          intro p hp _
          unfold openB
          refine List.any_eq_true.2 ⟨i, List.mem_range.2 hlt, ?_⟩
          rw [hE]
          have : p ∉ descendB md ops i ops.size := fun hd => by have := descend_pos ok.topoP i _ p hd; have := hpre p hp; omega
          simp [this]
        obtain ⟨v, hy, hr⟩ := mix_pickA ok.sel ho hE (ok.plain i o ho hE) post pre a w hap hopen hCw h
        exact wpOp_of_yields ho (ok.plain i o ho hE) hCw hy (keep _ _ (fun _ _ _ => hCw) hr)
      | true =>
        have hne : ∀ p ∈ pre, E.contains p = false := by
          intro p hp
          cases hEp : E.contains p with
          | false => rfl
          | true =>
            have hplt : p < ops.size := (ok.mem _).1 (mem_unlU.1 (hsub p (List.mem_append_left _ hp))).1
            have := ok.chain i o p ops[p] ho (by simp [hplt]) (hpre p hp) hEp hE (hfree p (hsub p (List.mem_append_left _ hp)) i hmem)
            exact absurd this (hnot p (by have := hpre p hp; intro e; subst e; omega) (hunp p hp))
        unfold wpOp
        simp only [ho]
        rcases mix_pickB ok.sel ho hE post pre a w hap hne h with ⟨h1, h2⟩ | ⟨h1, h2⟩
        · simp only [h1, if_true]
          left
          refine wp_noExit (Oper.wp_mono (fun a' w' hh => keep a' w' (fun j hj hEj => hh.1 ?_) hh.2) h2)
          unfold openB
          obtain ⟨hji, hjl⟩ := hun' j hj
          have hjlt : j < ops.size := by
            have : j ∈ unlU U listed := by
              rw [hsplit]
              rcases List.mem_append.1 hj with hj | hj
              · exact List.mem_append_left _ hj
              · exact List.mem_append_right _ (List.mem_cons_of_mem _ hj)
            exact (ok.mem _).1 (mem_unlU.1 this).1
          refine List.any_eq_true.2 ⟨j, List.mem_range.2 hjlt, ?_⟩
          have := hnot j hji hjl
          rw [hEj]
          simp [this]
        · simp only [h1, Bool.false_eq_true, if_false]
          refine keep _ _ (fun j hj hEj => hC j ?_ hEj) h2
          rw [hsplit]
          rcases List.mem_append.1 hj with hj | hj
          · exact List.mem_append_left _ hj
          · exact List.mem_append_right _ (List.mem_cons_of_mem _ hj)


/-- One operation of a drawn order: what is left of the list. -/
theorem unlU_set (ok : MixOkU md ops E U pos free) {listed : Array Bool} {i : Nat} {o : Oper} (hi : i ∈ Region.ready md ops listed) (ho : ops[i]? = some o) (hsz : listed.size = ops.size) :
    ∃ pre post, unlU U listed = pre ++ i :: post ∧ unlU U (listed.setIfInBounds i true) = pre ++ post ∧ (∀ p ∈ pre, pos p < pos i) ∧ (∀ p ∈ post, pos i < pos p) ∧ (∀ p ∈ pre, ∀ op, ops[p]? = some op → op.apart ops o = true) := by
  obtain ⟨hun, o', ho', hall⟩ := mem_ready.1 hi
  obtain rfl : o' = o := Option.some.inj (ho'.symm.trans ho)
  have hlt : i < ops.size := (Array.getElem?_eq_some_iff.1 ho).1
  have hmem : i ∈ unlU U listed := mem_unlU.2 ⟨(ok.mem _).2 hlt, hun⟩
  obtain ⟨pre, post, hsplit⟩ := List.append_of_mem hmem
  have hpw : (unlU U listed).Pairwise (fun x y => pos x < pos y) := List.Pairwise.filter _ ok.pw
  rw [hsplit] at hpw
  have hpre : ∀ p ∈ pre, pos p < pos i := fun p hp => (List.pairwise_append.1 hpw).2.2 p hp i List.mem_cons_self
  have hpost : ∀ p ∈ post, pos i < pos p := fun p hp => (List.pairwise_cons.1 (List.pairwise_append.1 hpw).2.1).1 p hp
  have hunp : ∀ p ∈ pre, listed.getD p true = false := fun p hp => (mem_unlU.1 (by rw [hsplit]; exact List.mem_append_left _ hp)).2
  refine ⟨pre, post, hsplit, ?_, hpre, hpost, ?_⟩
  · have e1 : unlU U (listed.setIfInBounds i true) = (unlU U listed).filter (fun j => j != i) := by
      unfold unlU
      rw [List.filter_filter]
      refine List.filter_congr fun j hj => ?_
      by_cases hij : i = j
      · subst hij
        have : (listed.setIfInBounds i true).getD i true = true := by
          have : i < listed.size := by omega
          simp [this]
        simp [this]
      · rw [getD_set_ne true hij]
        have : (j != i) = true := by simp; exact fun e => hij e.symm
        simp [this]
    rw [e1, hsplit, List.filter_append, List.filter_cons]
    have f1 : pre.filter (fun j => j != i) = pre := List.filter_eq_self.2 fun p hp => by have := hpre p hp; simp; intro e; subst e; omega
    have f2 : post.filter (fun j => j != i) = post := List.filter_eq_self.2 fun p hp => by have := hpost p hp; simp; intro e; subst e; omega
    simp [f1, f2]
  · intro p hp op hop
    rcases ok.apart i o' p op ho hop (hpre p hp) with ⟨e, he, hb, hon⟩ | h1
    · have h2 := hall e he hb
      rw [hon, getD_both (hunp p hp)] at h2
      cases h2
    · exact h1

theorem not_descend {listed : Array Bool} {i : Nat} (hcl : ∀ j oj, ops[j]? = some oj → listed.getD j false = true → ∀ e ∈ oj.after, Region.binds md e = true → listed.getD e.on false = true)
    (hi : i ∈ Region.ready md ops listed) : ∀ j, j ≠ i → listed.getD j true = false → i ∉ descendB md ops j ops.size := by
  obtain ⟨hun, o, ho, hall⟩ := mem_ready.1 hi
  intro j hne hl hd
  have := (descend_listed hcl j ops.size i hd).2 (fun e => hne e.symm) (fun oj hoj e he hb => by
    have : oj = o := Option.some.inj (hoj.symm.trans ho)
    subst this
    exact hall e he hb)
  rw [getD_both hl] at this
  cases this

/-- A drawn operation on memory, where none of the list stands ahead of it. -/
theorem stepU_E (ok : MixOkU md ops E U pos free) {n : Nat} {listed : Array Bool} {i : Nat} {o : Oper} {a : Act} {w : World} (hi : i ∈ Region.ready md ops listed) (ho : ops[i]? = some o) (hsz : listed.size = ops.size)
    (hcl : ∀ j oj, ops[j]? = some oj → listed.getD j false = true → ∀ e ∈ oj.after, Region.binds md e = true → listed.getD e.on false = true)
    (hC : ∀ j ∈ unlU U listed, E.contains j = false → C w) (hE : E.contains i = true) (hne : ∀ p ∈ unlU U listed, pos p < pos i → E.contains p = false)
    (h : wpMixI P md ops C E R (unlU U listed) a w)
    (keep : ∀ a' w', (∀ j ∈ unlU U (listed.setIfInBounds i true), E.contains j = false → C w') → wpMixI P md ops C E R (unlU U (listed.setIfInBounds i true)) a' w' → wpAny P md ops Q n (listed.setIfInBounds i true) a' w') :
    wpOp P ops Q i (fun a' w' => wpAny P md ops Q n (listed.setIfInBounds i true) a' w') a w := by
  obtain ⟨pre, post, hsplit, hu', hpre, hpost, hap⟩ := unlU_set ok hi ho hsz
  rw [hsplit] at h
  have hmemi : ∀ j ∈ pre ++ post, j ∈ unlU U listed ∧ j ≠ i := by
    intro j hj
    rw [hsplit]
    rcases List.mem_append.1 hj with hj | hj
    · exact ⟨List.mem_append_left _ hj, by have := hpre j hj; intro e; subst e; omega⟩
    · exact ⟨List.mem_append_right _ (List.mem_cons_of_mem _ hj), by have := hpost j hj; intro e; subst e; omega⟩
  unfold wpOp
  simp only [ho]
  rcases mix_pickB ok.sel ho hE post pre a w hap (fun p hp => hne p (hmemi p (List.mem_append_left _ hp)).1 (hpre p hp)) h with ⟨h1, h2⟩ | ⟨h1, h2⟩
  · simp only [h1, if_true]
    left
    refine wp_noExit (Oper.wp_mono (fun a' w' hh => keep a' w' (fun j hj hEj => hh.1 ?_) (by rw [hu']; exact hh.2)) h2)
    rw [hu'] at hj
    obtain ⟨hm, hji⟩ := hmemi j hj
    obtain ⟨hmU, hjl⟩ := mem_unlU.1 hm
    unfold openB
    refine List.any_eq_true.2 ⟨j, List.mem_range.2 ((ok.mem _).1 hmU), ?_⟩
    have := not_descend hcl hi j hji hjl
    rw [hEj]
    simp [this]
  · simp only [h1, Bool.false_eq_true, if_false]
    refine keep _ _ (fun j hj hEj => hC j ?_ hEj) (by rw [hu']; exact h2)
    rw [hu'] at hj
    exact (hmemi j hj).1
/-- A drawn operation that only loads. -/
theorem stepU_plain (ok : MixOkU md ops E U pos free) {listed : Array Bool} {i : Nat} {o : Oper} {a : Act} {w : World} (hi : i ∈ Region.ready md ops listed) (ho : ops[i]? = some o) (hsz : listed.size = ops.size)
    (hC : ∀ j ∈ unlU U listed, E.contains j = false → C w) (hE : E.contains i = false) (h : wpMixI P md ops C E R (unlU U listed) a w) :
    C w ∧ ∃ v, YieldsIn P ops C o v a ∧ wpMixI P md ops C E R (unlU U (listed.setIfInBounds i true)) (a.put o.dst v) w := by
  obtain ⟨pre, post, hsplit, hu', hpre, hpost, hap⟩ := unlU_set ok hi ho hsz
  have hlt : i < ops.size := (Array.getElem?_eq_some_iff.1 ho).1
  have hCw := hC i (by rw [hsplit]; exact List.mem_append_right _ List.mem_cons_self) hE
  rw [hsplit] at h
  have hopen : ∀ p ∈ pre, E.contains p = true → openB md ops E p = true := by
    intro p hp _
    unfold openB
    refine List.any_eq_true.2 ⟨i, List.mem_range.2 hlt, ?_⟩
    rw [hE]
    have : p ∉ descendB md ops i ops.size := fun hd => by have := descend_pos ok.topoP i _ p hd; have := hpre p hp; omega
    simp [this]
  obtain ⟨v, hy, hr⟩ := mix_pickA ok.sel ho hE (ok.plain i o ho hE) post pre a w hap hopen hCw h
  exact ⟨hCw, v, hy, by rw [hu']; exact hr⟩

def freeP (x y p i : Nat) : Bool := (p == x && i == y) || (p == y && i == x)
theorem freeP_left {x y p i : Nat} (h : p ≠ x ∧ i ≠ x) : freeP x y p i = false := by
  unfold freeP; simp [h.1, h.2]
theorem freeP_right {x y p i : Nat} (h : p ≠ y ∧ i ≠ y) : freeP x y p i = false := by
  unfold freeP; simp [h.1, h.2]

theorem mix2o_any {U1 U2 : List Nat} {pos1 pos2 : Nat → Nat} {x y : Nat} (oa : MixOkU md ops E U1 pos1 (freeP x y)) (ob : MixOkU md ops E U2 pos2 (freeP x y)) (hxy : x ≠ y) (hxs : x < ops.size) (hys : y < ops.size) (hx : E.contains x = true) (hy : E.contains y = true)
    (hp1 : pos1 x < pos1 y) (hp2 : pos2 y < pos2 x) (late : ∀ e, e < ops.size → E.contains e = true → e ≠ x → e ≠ y → e ∈ descendB md ops x ops.size ∧ e ∈ descendB md ops y ops.size) :
    ∀ (n : Nat) (listed : Array Bool) (a : Act) (w : World), (unlU U1 listed).length ≤ n → (unlU U2 listed).length ≤ n → listed.size = ops.size → listed.getD x true = false → listed.getD y true = false →
    (∀ j oj, ops[j]? = some oj → listed.getD j false = true → ∀ e ∈ oj.after, Region.binds md e = true → listed.getD e.on false = true) →
    (∀ j, j < ops.size → listed.getD j true = false → E.contains j = false → C w) → wpMixI P md ops C E (fun a w => Q .normal a w) (unlU U1 listed) a w → wpMixI P md ops C E (fun a w => Q .normal a w) (unlU U2 listed) a w → wpAny P md ops Q n listed a w := by
  intro n
  induction n with
  | zero =>
    intro listed a w hlen _ _ hlx _ _ _ _ _
    have : x ∈ unlU U1 listed := mem_unlU.2 ⟨(oa.mem _).2 hxs, hlx⟩
    rw [List.eq_nil_of_length_eq_zero (Nat.le_zero.1 hlen)] at this
    cases this
  | succ n ih =>
    intro listed a w hlen hlen2 hsz hlx hly hcl hC h1 h2
    have hC1 : ∀ j ∈ unlU U1 listed, E.contains j = false → C w := fun j hj hE => hC j ((oa.mem _).1 (mem_unlU.1 hj).1) (mem_unlU.1 hj).2 hE
    have hC2 : ∀ j ∈ unlU U2 listed, E.contains j = false → C w := fun j hj hE => hC j ((ob.mem _).1 (mem_unlU.1 hj).1) (mem_unlU.1 hj).2 hE
    refine ⟨fun hr => ?_, fun i hi => ?_⟩
    · exfalso
      cases hu : unlU U1 listed with
      | nil =>
        have : x ∈ unlU U1 listed := mem_unlU.2 ⟨(oa.mem _).2 hxs, hlx⟩
        rw [hu] at this; cases this
      | cons i0 U0 =>
        have hi0 : i0 ∈ unlU U1 listed := by rw [hu]; exact List.mem_cons_self
        obtain ⟨hlt0, hun⟩ := mem_unlU.1 hi0
        have hlt := (oa.mem _).1 hlt0
        have hpw : (unlU U1 listed).Pairwise (fun x y => pos1 x < pos1 y) := List.Pairwise.filter _ oa.pw
        rw [hu, List.pairwise_cons] at hpw
        have : i0 ∈ Region.ready md ops listed := by
          refine mem_ready.2 ⟨hun, ops[i0], by simp [hlt], fun e he hb => ?_⟩
          have hon := oa.topo i0 ops[i0] (by simp [hlt]) e he hb
          have hop := oa.topoP i0 ops[i0] (by simp [hlt]) e he hb
          cases hl : listed.getD e.on false with
          | true => rfl
          | false =>
            have hm : e.on ∈ unlU U1 listed := mem_unlU.2 ⟨(oa.mem _).2 (by omega), getD_in (by omega) hl⟩
            rw [hu] at hm
            rcases List.mem_cons.1 hm with hm | hm
            · rw [hm] at hop; exact absurd hop (Nat.lt_irrefl _)
            · have := hpw.1 _ hm; omega
        rw [hr] at this; cases this
    · obtain ⟨hun, o, ho, hall⟩ := mem_ready.1 hi
      have hlt : i < ops.size := (Array.getElem?_eq_some_iff.1 ho).1
      have hsz' : (listed.setIfInBounds i true).size = ops.size := by simp [hsz]
      have hcl' : ∀ j oj, ops[j]? = some oj → (listed.setIfInBounds i true).getD j false = true → ∀ e ∈ oj.after, Region.binds md e = true → (listed.setIfInBounds i true).getD e.on false = true := by
        intro j oj hj hl e he hb
        by_cases hij : i = j
        · subst hij
          have : oj = o := Option.some.inj (hj.symm.trans ho)
          subst this
          exact getD_set_true (hall e he hb)
        · rw [getD_set_ne false hij] at hl
          exact getD_set_true (hcl j oj hj hl e he hb)
      have hset : ∀ j, (listed.setIfInBounds i true).getD j true = false → listed.getD j true = false ∧ j ≠ i := by
        intro j hj
        by_cases hij : i = j
        · subst hij
          have : (listed.setIfInBounds i true).getD i true = true := by
            have : i < listed.size := by omega
            simp [this]
          rw [this] at hj; cases hj
        · rw [getD_set_ne true hij] at hj
          exact ⟨hj, fun e => hij e.symm⟩
      have hlenU : ∀ {U : List Nat} {pos : Nat → Nat}, MixOkU md ops E U pos (freeP x y) → (unlU U listed).length ≤ n + 1 → (unlU U (listed.setIfInBounds i true)).length ≤ n := by
        intro U pos ok hl
        obtain ⟨pre, post, e1, e2, _⟩ := unlU_set ok hi ho hsz
        rw [e2]; rw [e1] at hl; simp at hl ⊢; omega
      have hnot := not_descend hcl hi
      by_cases hix : i = x
      · subst hix
        refine stepU_E oa hi ho hsz hcl hC1 hx (fun p hp hpp => ?_) h1 (fun a' w' hc hh => ?_)
        · cases hEp : E.contains p with
          | false => rfl
          | true =>
            obtain ⟨hpU, hpl⟩ := mem_unlU.1 hp
            by_cases hpy : p = y
            · subst hpy; omega
            · have := descend_pos oa.topoP i _ p (late p ((oa.mem _).1 hpU) hEp (fun e => by subst e; omega) hpy).1
              omega
        · refine mixU_any oa n _ a' w' (hlenU oa hlen) hsz' ?_ hcl' hc hh
          intro p hp q hq
          exact freeP_left ⟨(hset p (mem_unlU.1 hp).2).2, (hset q (mem_unlU.1 hq).2).2⟩
      · by_cases hiy : i = y
        · subst hiy
          refine stepU_E ob hi ho hsz hcl hC2 hy (fun p hp hpp => ?_) h2 (fun a' w' hc hh => ?_)
          · cases hEp : E.contains p with
            | false => rfl
            | true =>
              obtain ⟨hpU, hpl⟩ := mem_unlU.1 hp
              by_cases hpx : p = x
              · subst hpx; omega
              · have := descend_pos ob.topoP i _ p (late p ((ob.mem _).1 hpU) hEp hpx (fun e => by subst e; omega)).2
                omega
          · refine mixU_any ob n _ a' w' (hlenU ob hlen2) hsz' ?_ hcl' hc hh
            intro p hp q hq
            exact freeP_right ⟨(hset p (mem_unlU.1 hp).2).2, (hset q (mem_unlU.1 hq).2).2⟩
        · cases hE : E.contains i with
          | true => exact absurd (late i hlt hE hix hiy).1 (hnot x (fun e => hix e.symm) hlx)
          | false =>
            obtain ⟨hCw, v, hv, hr1⟩ := stepU_plain oa hi ho hsz hC1 hE h1
            obtain ⟨_, v2, hv2, hr2⟩ := stepU_plain ob hi ho hsz hC2 hE h2
            have hvv : v = v2 := YieldsIn.one (oa.plain i o ho hE) hCw hv hv2
            subst hvv
            refine wpOp_of_yields ho (oa.plain i o ho hE) hCw hv (ih _ _ _ (hlenU oa hlen) (hlenU ob hlen2) hsz' ?_ ?_ hcl' (fun j hj hjl hEj => hC j hj (hset j hjl).1 hEj) hr1 hr2)
            · rw [getD_set_ne true (fun e => hix e)]; exact hlx
            · rw [getD_set_ne true (fun e => hiy e)]; exact hly

def okUB (md : Region.Mode) (ops : Array Oper) (E : List Nat) (pos : Nat → Nat) (x y : Nat) : Bool :=
  Region.noSelect ops && (List.range ops.size).all fun i => match ops[i]? with
    | none => true
    | some o => o.after.all (fun e => !Region.binds md e || (decide (e.on < i) && decide (pos e.on < pos i))) && (E.contains i || plainOp o) &&
      (List.range ops.size).all fun p => match ops[p]? with
        | none => true
        | some op => !decide (pos p < pos i) || ((o.after.any (fun e => Region.binds md e && e.on == p) || op.apart ops o) &&
          (!(E.contains p && E.contains i) || freeP x y p i || (descendB md ops p ops.size).contains i))
theorem okUB_ok {x y : Nat} (h : okUB md ops E pos x y = true) (mem : ∀ i, i ∈ U ↔ i < ops.size) (pw : U.Pairwise (fun a b => pos a < pos b)) : MixOkU md ops E U pos (freeP x y) := by
  unfold okUB at h
  simp only [Bool.and_eq_true, List.all_eq_true, List.mem_range] at h
  obtain ⟨hs, h⟩ := h
  have lt : ∀ i o, ops[i]? = some o → i < ops.size := fun i o ho => (Array.getElem?_eq_some_iff.1 ho).1
  have get : ∀ i o, ops[i]? = some o → _ := fun i o ho => by
    have := h i (lt i o ho)
    simp only [ho, Bool.and_eq_true] at this
    exact this
  have both : ∀ i o, ops[i]? = some o → ∀ e ∈ o.after, Region.binds md e = true → e.on < i ∧ pos e.on < pos i := by
    intro i o ho e he hb
    have := Array.all_eq_true'.1 (get i o ho).1.1 e he
    simpa [hb] using this
  have prs : ∀ i o p op, ops[i]? = some o → ops[p]? = some op → pos p < pos i → ((o.after.any (fun e => Region.binds md e && e.on == p) || op.apart ops o) &&
          (!(E.contains p && E.contains i) || freeP x y p i || (descendB md ops p ops.size).contains i)) = true := by
    intro i o p op ho hp hlt
    have := List.all_eq_true.1 (get i o ho).2 p (List.mem_range.2 (lt p op hp))
    simp only [hp, hlt, decide_true, Bool.not_true, Bool.false_or] at this
    exact this
  refine ⟨Region.noSelect_spec hs, mem, pw, fun i o ho e he hb => (both i o ho e he hb).1, fun i o ho e he hb => (both i o ho e he hb).2, ?_, ?_, ?_⟩
  · intro i o ho hE
    have := (get i o ho).1.2
    rwa [hE, Bool.false_or] at this
  · intro i o p op ho hp hlt
    have := prs i o p op ho hp hlt
    simp only [Bool.and_eq_true, Bool.or_eq_true] at this
    rcases this.1 with h1 | h1
    · obtain ⟨e, he, hb⟩ := Array.any_eq_true'.1 h1
      simp only [Bool.and_eq_true, beq_iff_eq] at hb
      exact .inl ⟨e, he, hb⟩
    · exact .inr h1
  · intro i o p op ho hp hlt h1 h2 hf
    have := prs i o p op ho hp hlt
    simp only [Bool.and_eq_true] at this
    have h3 := this.2
    rw [h1, h2, hf] at h3
    simpa using h3

/-- Where the operations stand once two stretches have changed places. -/
def swapPos (i1 i2 i3 j : Nat) : Nat := if j < i1 then j else if j < i2 then j + (i3 - i2) else if j < i3 then j - (i2 - i1) else j
def swapSeq (i1 i2 i3 n : Nat) : List Nat := List.range' 0 i1 ++ (List.range' i2 (i3 - i2) ++ (List.range' i1 (i2 - i1) ++ List.range' i3 (n - i3)))
theorem pw_seg (f : Nat → Nat) (k m : Nat) (h : ∀ a b, k ≤ a → a < b → b < k + m → f a < f b) : (List.range' k m).Pairwise (fun a b => f a < f b) := by
  refine List.Pairwise.imp_of_mem (fun {a b} ha hb hab => ?_) (List.pairwise_lt_range' (s := k) (n := m))
  have h1 := List.mem_range'_1.1 ha
  have h2 := List.mem_range'_1.1 hb
  exact h a b h1.1 hab h2.2
theorem swap_mem {i1 i2 i3 n : Nat} (h1 : i1 ≤ i2) (h2 : i2 ≤ i3) (h3 : i3 ≤ n) (i : Nat) : i ∈ swapSeq i1 i2 i3 n ↔ i < n := by
  simp only [swapSeq, List.mem_append, List.mem_range'_1]
  omega
theorem swap_pw {i1 i2 i3 n : Nat} (h1 : i1 ≤ i2) (h2 : i2 ≤ i3) (h3 : i3 ≤ n) : (swapSeq i1 i2 i3 n).Pairwise (fun a b => swapPos i1 i2 i3 a < swapPos i1 i2 i3 b) := by
  have fA : ∀ a, a < i1 → swapPos i1 i2 i3 a = a := fun a h => if_pos h
  have fB : ∀ a, i1 ≤ a → a < i2 → swapPos i1 i2 i3 a = a + (i3 - i2) := fun a h h' => by unfold swapPos; rw [if_neg (by omega), if_pos h']
  have fC : ∀ a, i2 ≤ a → a < i3 → swapPos i1 i2 i3 a = a - (i2 - i1) := fun a h h' => by unfold swapPos; rw [if_neg (by omega), if_neg (by omega), if_pos h']
  have fD : ∀ a, i3 ≤ a → swapPos i1 i2 i3 a = a := fun a h => by unfold swapPos; rw [if_neg (by omega), if_neg (by omega), if_neg (by omega)]
  unfold swapSeq
  refine List.pairwise_append.2 ⟨pw_seg _ _ _ (fun a b h h' h'' => by rw [fA a (by omega), fA b (by omega)]; exact h'), List.pairwise_append.2 ⟨pw_seg _ _ _ (fun a b h h' h'' => by rw [fC a (by omega) (by omega), fC b (by omega) (by omega)]; omega),
    List.pairwise_append.2 ⟨pw_seg _ _ _ (fun a b h h' h'' => by rw [fB a (by omega) (by omega), fB b (by omega) (by omega)]; omega), pw_seg _ _ _ (fun a b h h' h'' => by rw [fD a (by omega), fD b (by omega)]; exact h'), ?_⟩, ?_⟩, ?_⟩
  · intro a ha b hb
    have h1 := List.mem_range'_1.1 ha
    have h2 := List.mem_range'_1.1 hb
    rw [fB a (by omega) (by omega), fD b (by omega)]; omega
  · intro a ha b hb
    have h1 := List.mem_range'_1.1 ha
    rcases List.mem_append.1 hb with hb | hb
    · have h2 := List.mem_range'_1.1 hb
      rw [fC a (by omega) (by omega), fB b (by omega) (by omega)]; omega
    · have h2 := List.mem_range'_1.1 hb
      rw [fC a (by omega) (by omega), fD b (by omega)]; omega
  · intro a ha b hb
    have h1 := List.mem_range'_1.1 ha
    rw [fA a (by omega)]
    rcases List.mem_append.1 hb with hb | hb
    · have h2 := List.mem_range'_1.1 hb
      rw [fC b (by omega) (by omega)]; omega
    · rcases List.mem_append.1 hb with hb | hb
      · have h2 := List.mem_range'_1.1 hb
        rw [fB b (by omega) (by omega)]; omega
      · have h2 := List.mem_range'_1.1 hb
        rw [fD b (by omega)]; omega

def swapB (md : Region.Mode) (ops : Array Oper) (E : List Nat) (i1 i2 i3 x y : Nat) : Bool :=
  okUB md ops E (fun j => j) x y && okUB md ops E (swapPos i1 i2 i3) x y && decide (i1 ≤ x) && decide (x < i2) && decide (i2 ≤ y) && decide (y < i3) && decide (i3 ≤ ops.size) && E.contains x && E.contains y &&
    (List.range ops.size).all fun e => !E.contains e || e == x || e == y || ((descendB md ops x ops.size).contains e && (descendB md ops y ops.size).contains e)

theorem wpMixI_append : ∀ (us bs : List Nat) (a : Act) (w : World), wpMixI P md ops C E (fun a w => wpMixI P md ops C E R bs a w) us a w → wpMixI P md ops C E R (us ++ bs) a w
  | [], _, _, _, h => h
  | i :: us, bs, a, w, h => by
    have IH := wpMixI_append us bs
    cases ho : ops[i]? with
    | none =>
      rw [mix_none ho] at h
      rw [List.cons_append, mix_none ho]
      exact IH a w h
    | some o =>
      rw [mix_cons ho] at h
      rw [List.cons_append, mix_cons ho]
      split
      · rename_i hw
        rw [if_pos hw] at h
        split
        · rename_i hE
          rw [if_pos hE] at h
          exact Oper.wp_mono (fun a' w' hh => ⟨hh.1, IH _ _ hh.2⟩) h
        · rename_i hE
          rw [if_neg hE] at h
          exact Oper.quiet_mono (fun a' hh => IH _ _ hh) h
      · rename_i hw
        rw [if_neg hw] at h
        exact IH _ _ h

theorem wpMixI_mono {R' : Act → World → Prop} (hR : ∀ a w, R a w → R' a w) : ∀ (U : List Nat) (a : Act) (w : World), wpMixI P md ops C E R U a w → wpMixI P md ops C E R' U a w
  | [], a, w, h => hR a w h
  | i :: U, a, w, h => by
    have IH := wpMixI_mono hR U
    cases ho : ops[i]? with
    | none => rw [mix_none ho] at h ⊢; exact IH a w h
    | some o =>
      rw [mix_cons ho] at h ⊢
      split
      · rename_i hw
        rw [if_pos hw] at h
        split
        · rename_i hE
          rw [if_pos hE] at h
          exact Oper.wp_mono (fun a' w' hh => ⟨hh.1, IH _ _ hh.2⟩) h
        · rename_i hE
          rw [if_neg hE] at h
          exact Oper.quiet_mono (fun a' hh => IH _ _ hh) h
      · rename_i hw
        rw [if_neg hw] at h
        exact IH _ _ h

/-- A stretch of the text. -/
theorem seg_of {l : List Oper} (k m : Nat) (hk : k + m ≤ l.length) {Q' : Exit → Act → World → Prop} {a : Act} {w : World} (h : wpMix P l.toArray C E Q' k ((l.drop k).take m) a w) : wpMixI P .any l.toArray C E (fun a w => Q' .normal a w) (List.range' k m) a w := by
  have e : ((l.drop k).take m).length = m := by simp; omega
  have := wpMixI_of_wpMix ((l.drop k).take m) k a w (fun j hj => by
    rw [e] at hj
    rw [List.getElem?_take, if_pos hj, List.getElem?_drop]
    simp) h
  rwa [e] at this

theorem wp_region_mix_swap {id : Nat} {a : Act} {w : World} {l : List Oper} (E : List Nat) (C : World → Prop) (i1 i2 i3 x y : Nat) (hm : P.follows .mixedOrders = true) (hB : swapB .any l.toArray E i1 i2 i3 x y = true) (hC : C w.drew)
    (h1 : wpMix P l.toArray C E Q 0 l a w.drew)
    (h2 : wpMix P l.toArray C E (fun _ a w => wpMix P l.toArray C E (fun _ a w => wpMix P l.toArray C E (fun _ a w => wpMix P l.toArray C E Q i3 (l.drop i3) a w) i1 ((l.drop i1).take (i2 - i1)) a w) i2 ((l.drop i2).take (i3 - i2)) a w) 0 ((l.drop 0).take i1) a w.drew) :
    (Code.region id l.toArray true).wp P Q a w := by
  unfold swapB at hB
  simp only [Bool.and_eq_true, decide_eq_true_eq, List.all_eq_true, List.mem_range] at hB
  obtain ⟨⟨⟨⟨⟨⟨⟨⟨⟨ha, hb⟩, q1⟩, q2⟩, q3⟩, q4⟩, q5⟩, hx⟩, hy⟩, hl⟩ := hB
  have hsz : l.toArray.size = l.length := by simp
  rw [hsz] at q5
  have oa := okUB_ok (U := List.range' 0 l.length) ha (fun i => by rw [List.mem_range'_1, hsz]; omega) (pw_seg _ _ _ (fun a b _ h _ => h))
  have ob := okUB_ok (U := swapSeq i1 i2 i3 l.length) hb (fun i => by rw [hsz]; exact swap_mem (by omega) (by omega) q5 i) (swap_pw (by omega) (by omega) q5)
  have hu1 : unlU (List.range' 0 l.length) (Array.replicate l.toArray.size false) = List.range' 0 l.length := by
    unfold unlU
    rw [List.filter_eq_self.2]
    intro i hi
    have hi' : i < l.length := by have := List.mem_range'_1.1 hi; omega
    simp [hi']
  have hu2 : unlU (swapSeq i1 i2 i3 l.length) (Array.replicate l.toArray.size false) = swapSeq i1 i2 i3 l.length := by
    unfold unlU
    rw [List.filter_eq_self.2]
    intro i hi
    have hi' : i < l.length := (swap_mem (by omega) (by omega) q5 i).1 hi
    simp [hi']
  refine wp_region_any hm (mix2o_any (C := C) (E := E) oa ob (by omega) (by rw [hsz]; omega) (by rw [hsz]; omega) hx hy (by omega) ?_ ?_ _ _ a _ ?_ ?_ (by simp) ?_ ?_ ?_ ?_ ?_ ?_)
  · show swapPos i1 i2 i3 y < swapPos i1 i2 i3 x
    unfold swapPos
    rw [if_neg (by omega), if_neg (by omega), if_pos (by omega), if_neg (by omega), if_pos (by omega)]
    omega
  · intro e he hE hex hey
    have := hl e he
    simp only [hE, Bool.not_true, Bool.false_or, Bool.or_eq_true, beq_iff_eq, Bool.and_eq_true, List.contains_iff_mem] at this
    rcases this with (h | h) | h
    · exact absurd h hex
    · exact absurd h hey
    · exact h
  · rw [hu1]; simp
  · rw [hu2]; simp [swapSeq]; omega
  · have : x < l.length := by omega
    simp [this]
  · have : y < l.length := by omega
    simp [this]
  · intro j oj _ hl
    rw [getD_replicate_false] at hl; cases hl
  · intro _ _ _ _; exact hC
  · rw [hu1]
    exact wpMixI_of_wpMix l 0 a _ (fun j hj => by simp) h1
  · rw [hu2]
    refine wpMixI_append _ _ _ _ (wpMixI_mono (fun a w h => wpMixI_append _ _ _ _ (wpMixI_mono (fun a w h => wpMixI_append _ _ _ _ (wpMixI_mono (fun a w h => seg_of i3 (l.length - i3) (by omega) (by rw [List.take_of_length_le (by simp)]; exact h)) _ _ _ (seg_of i1 (i2 - i1) (by omega) h))) _ _ _ (seg_of i2 (i3 - i2) (by omega) h))) _ _ _ (seg_of 0 i1 (by omega) h2))
end Mix3
end Go.Proofs.Ytfldgaiiniknpaa
/- The walk of seal.Put. -/
namespace Go.Proofs.Ytfldgaiiniknpaa
open Go.RowKit

theorem all_three {w : World} {a b c : Part} (ha : Bs w a.A a.n a.cap a.zs) (hb : Bs w b.A b.n b.cap b.zs) (hc : Bs w c.A c.n c.cap c.zs) : ∀ p ∈ [a, b, c], Bs w p.A p.n p.cap p.zs := by
  intro p hp
  simp only [List.mem_cons, List.not_mem_nil, or_false] at hp
  rcases hp with rfl | rfl | rfl
  · exact ha
  · exact hb
  · exact hc
theorem own_bs {w : World} {X : Nat} {A : Option Addr} {n cap : Nat} {l : List Int} (h : Own w X (.slice A n cap) l) : Bs w A n cap l := by
  obtain ⟨A', cap', e, hb, -⟩ := h.shape
  cases e
  exact hb
theorem Blk.newAt {X : World} {b : Nat} (h : X.heap.size = b) (c : List Value) (T : TypeId) : Blk (X.alloc (.cells c.toArray T)) b c T := by
  subst h; exact Blk.new _ _ _
theorem lit_bs (w : World) (b : Nat) (hb : b = w.heap.size) (zs : List Int) (hz : ∀ z ∈ zs, 0 ≤ z ∧ z ≤ 255) (hl : zs.length ≤ 1000000) : Bs (w.alloc (.cells (zs.map (Value.int .u8)).toArray 5)) (some ⟨b, 0, none⟩) zs.length zs.length zs := by
  subst hb; exact own_bs (Own.lit w zs hz hl)
set_option maxRecDepth 100000 in
set_option maxHeartbeats 3200000 in
theorem sput_any (kind seq : Int) (A : Option Addr) (n cap : Nat) (zs : List Int) (w : World) (h : Bs w A n cap zs) (hmx : n ≤ 1000000) :
    Calls Try.prog 66 #[.agg #[.int .i64 kind, .int .i64 seq, .slice A n cap]] w fun e w' => ∃ v, e = .returned v ∧ Own w' w.heap.size v (putL kind seq zs) ∧ Keeps None w w' := by
  have hl := h.len
  by_cases g1 : kind < 1
  · have d1 : decide (kind < 1) = true := decide_eq_true g1
    have HP : Hid (putL kind seq zs = []) := if_neg (fun hf => by obtain ⟨f1, f2, f3, f4, f5⟩ := hf; omega)
    clear h
    go_enter Try.func66, Try.ntmps66
    go_wp2
    go_ret
    exact ⟨_, rfl, by rw [HP.out]; exact Own.nil _ _, (Keeps.refl _ _).alloc _⟩
  have d1 : decide (kind < 1) = false := decide_eq_false g1
  by_cases g2 : 250 < kind
  · have d2 : decide (250 < kind) = true := decide_eq_true g2
    have HP : Hid (putL kind seq zs = []) := if_neg (fun hf => by obtain ⟨f1, f2, f3, f4, f5⟩ := hf; omega)
    clear h
    go_enter Try.func66, Try.ntmps66
    go_wp2
    go_ret
    exact ⟨_, rfl, by rw [HP.out]; exact Own.nil _ _, (Keeps.refl _ _).alloc _⟩
  have d2 : decide (250 < kind) = false := decide_eq_false g2
  by_cases g3 : seq < 0
  · have d3 : decide (seq < 0) = true := decide_eq_true g3
    have HP : Hid (putL kind seq zs = []) := if_neg (fun hf => by obtain ⟨f1, f2, f3, f4, f5⟩ := hf; omega)
    clear h
    go_enter Try.func66, Try.ntmps66
    go_wp2
    go_ret
    exact ⟨_, rfl, by rw [HP.out]; exact Own.nil _ _, (Keeps.refl _ _).alloc _⟩
  have d3 : decide (seq < 0) = false := decide_eq_false g3
  by_cases g4 : 4294967295 < seq
  · have d4 : decide (4294967295 < seq) = true := decide_eq_true g4
    have HP : Hid (putL kind seq zs = []) := if_neg (fun hf => by obtain ⟨f1, f2, f3, f4, f5⟩ := hf; omega)
    clear h
    go_enter Try.func66, Try.ntmps66
    go_wp2
    go_ret
    exact ⟨_, rfl, by rw [HP.out]; exact Own.nil _ _, (Keeps.refl _ _).alloc _⟩
  have d4 : decide (4294967295 < seq) = false := decide_eq_false g4
  by_cases g5 : 512 < n
  · have d5 : decide (512 < (n : Int)) = true := decide_eq_true (by omega)
    have HP : Hid (putL kind seq zs = []) := if_neg (fun hf => by obtain ⟨f1, f2, f3, f4, f5⟩ := hf; omega)
    clear h
    go_enter Try.func66, Try.ntmps66
    go_wp2
    go_ret
    exact ⟨_, rfl, by rw [HP.out]; exact Own.nil _ _, (Keeps.refl _ _).alloc _⟩
  have d5 : decide (512 < (n : Int)) = false := decide_eq_false (by omega)
  obtain ⟨kd, rfl⟩ : ∃ kd : Nat, kind = kd := ⟨kind.toNat, by omega⟩
  obtain ⟨sq, rfl⟩ : ∃ sq : Nat, seq = sq := ⟨seq.toNat, by omega⟩
  have k1 : kd ≤ 250 := by omega
  have k2 : sq < 4294967296 := by omega
  have k3 : n ≤ 512 := by omega
  have HP : Hid (putL kd sq zs = frontL kd sq zs ++ tailL (frontL kd sq zs)) := if_pos ⟨by omega, by omega, by omega, by omega, by omega⟩
  have HB := Lib.hid h
  have HL := Lib.hid hl
  clear h hl g1 g2 g3 g4 g5
  go_enter Try.func66, Try.ntmps66
  go_wp2
  obtain ⟨wb, hwb⟩ : ∃ x, w.alloc (.cells #[.int .i64 kd, .int .i64 sq, .slice A n cap] 58) = x := ⟨_, rfl⟩
  have BB : Hid (Blk wb w.heap.size [.int .i64 kd, .int .i64 sq, .slice A n cap] 58) := by rw [← hwb]; exact Blk.new w [.int .i64 kd, .int .i64 sq, .slice A n cap] 58
  have KB : Hid (Keeps None w wb) := by rw [← hwb]; exact (Keeps.refl None w).alloc _
  rw [hwb]
  clear hwb
  have FOUR := Lib.hid (fun w => sfour_any sq k2 w)
  have hhd : ∀ z ∈ headL kd sq n, 0 ≤ z ∧ z ≤ 255 := by
    intro z hz
    simp only [headL, List.mem_cons, List.not_mem_nil, or_false] at hz
    rcases hz with rfl | rfl | rfl | rfl <;> omega
  have HHD := Lib.hid hhd
  clear hhd
  obtain ⟨mS, mh⟩ : ∃ S : World → Prop, ∀ w', S w' ↔ (w'.cell? ⟨w.heap.size, 0, none⟩ = some (.int .i64 kd) ∧ w'.cell? ⟨w.heap.size, 1, none⟩ = some (.int .i64 sq) ∧ w'.cell? ⟨w.heap.size, 2, none⟩ = some (.slice A n cap)) := ⟨_, fun _ => Iff.rfl⟩
  have mk0 : ∀ x : Memb mS, x.at_.cell? ⟨w.heap.size, 0, none⟩ = some (.int .i64 kd) := fun x => ((mh _).1 x.is).1
  have mk1 : ∀ x : Memb mS, x.at_.cell? ⟨w.heap.size, 1, none⟩ = some (.int .i64 sq) := fun x => ((mh _).1 x.is).2.1
  have mk2 : ∀ x : Memb mS, x.at_.cell? ⟨w.heap.size, 2, none⟩ = some (.slice A n cap) := fun x => ((mh _).1 x.is).2.2
  have mn : Nonempty (Memb mS) := ⟨⟨(wb).drew, (mh _).2 ⟨BB.out.cellD 0 _ rfl, BB.out.cellD 1 _ rfl, BB.out.cellD 2 _ rfl⟩⟩⟩
  have mH := Lib.hid mh
  clear mh
  refine wp_region_mix_swap [8, 12, 15, 16] (InS mS) 8 9 13 8 12 (by kernel_rfl) (by kernel_rfl) (InS.mk ((mH.out _).2 ⟨BB.out.cellD 0 _ rfl, BB.out.cellD 1 _ rfl, BB.out.cellD 2 _ rfl⟩)) ?_ ?_
  ·
    refine wpMix_seg 8 (by kernel_rfl) (by decide) ?_
    simp only [List.take_succ_cons, List.take_zero, List.drop_succ_cons, List.drop_zero, Nat.reduceSub]
    repeat (go_big_quiet_step (fail))
    refine wpQuiet_nil ?_
    refine wpMix_eff (by kernel_rfl) ?_
    go_wp2
    have X1 : Hid (Keeps None wb (wb.alloc (.cells #[.int .u8 kd, .int .u8 0, .int .u8 ((n : Int) % 256), .int .u8 ((n : Int) / 256)] 5)).drew) := ((Keeps.refl None wb).alloc _).drew
    refine MixK.on (InS.mk ((mH.out _).2 (⟨(X1.out.blk BB.out (fun h => h)).cellD 0 _ rfl, (X1.out.blk BB.out (fun h => h)).cellD 1 _ rfl, (X1.out.blk BB.out (fun h => h)).cellD 2 _ rfl⟩))) ?_
    refine wpMix_seg 3 (by kernel_rfl) (by decide) ?_
    simp only [List.take_succ_cons, List.take_zero, List.drop_succ_cons, List.drop_zero, Nat.reduceSub]
    repeat (go_big_quiet_step (fail))
    refine wpQuiet_nil ?_
    refine wpMix_eff (by kernel_rfl) ?_
    go_wp2_with fail
    refine (FOUR.out _).mono ?_
    rintro e w2 ⟨v2, rfl, o2, kq⟩
    obtain ⟨A2, cap2, rfl, bs2, -⟩ := o2.shape
    have X2 : Hid (Keeps None wb w2) := X1.out.trans kq (fun _ h => h) (fun _ _ h => h)
    have HD2 : Hid (Bs w2 (some ⟨wb.heap.size, 0, none⟩) 4 4 (headL kd sq n)) := (lit_bs wb _ rfl (headL kd sq n) HHD.out (by simp [headL])).drew.keeps kq (fun _ _ _ _ _ h => h)
    have BS2 := Lib.hid bs2
    clear o2 kq bs2
    go_wp2
    refine MixK.on (InS.mk ((mH.out _).2 (⟨(X2.out.blk BB.out (fun h => h)).cellD 0 _ rfl, (X2.out.blk BB.out (fun h => h)).cellD 1 _ rfl, (X2.out.blk BB.out (fun h => h)).cellD 2 _ rfl⟩))) ?_
    refine wpMix_seg 2 (by kernel_rfl) (by decide) ?_
    simp only [List.take_succ_cons, List.take_zero, List.drop_succ_cons, List.drop_zero, Nat.reduceSub]
    repeat (go_big_quiet_step (fail))
    refine wpQuiet_nil ?_
    refine wpMix_eff (by kernel_rfl) ?_
    go_wp2
    have X3 : Hid (Keeps None wb (w2.alloc (.cells #[.slice (some ⟨wb.heap.size, 0, none⟩) 4 4, .slice A2 (le4 sq).length cap2, .slice A n cap] 27))) := X2.out.alloc _
    refine MixK.on (InS.mk ((mH.out _).2 (⟨(X3.out.blk BB.out (fun h => h)).cellD 0 _ rfl, (X3.out.blk BB.out (fun h => h)).cellD 1 _ rfl, (X3.out.blk BB.out (fun h => h)).cellD 2 _ rfl⟩))) ?_
    refine wpMix_eff (by kernel_rfl) ?_
    go_wp2_with fail
    refine (concat_any [⟨some ⟨wb.heap.size, 0, none⟩, 4, 4, headL kd sq n⟩, ⟨A2, (le4 sq).length, cap2, le4 sq⟩, ⟨A, n, cap, zs⟩] 3 w2.heap.size 27 _ (Blk.newAt rfl [_, _, _] _) rfl (all_three (HD2.out.alloc _) (BS2.out.alloc _) ((HB.out.keeps KB.out (fun _ _ _ _ _ h => h)).keeps X3.out (fun _ _ _ _ _ h => h))) (by simp [tot]; omega) (by simp [tot, le4]; omega) (by decide)).mono ?_
    rintro e w5 ⟨v5, rfl, o5, k5⟩
    have X5 : Hid (Keeps None wb w5) := X3.out.trans k5 (fun _ h => h) (fun _ _ h => h)
    have O5 := Lib.hid (show Own w5 w.heap.size v5 (headL kd sq n ++ le4 sq ++ zs) from by have := o5.lower (Nat.le_trans KB.out.size X3.out.size); simpa [cat] using this)
    clear o5 k5 X3 HD2 BS2 X2 X1
    go_wp2
    refine MixK.on (InS.mk ((mH.out _).2 (⟨(X5.out.blk BB.out (fun h => h)).cellD 0 _ rfl, (X5.out.blk BB.out (fun h => h)).cellD 1 _ rfl, (X5.out.blk BB.out (fun h => h)).cellD 2 _ rfl⟩))) ?_
    refine wpMix_seg 1 (by kernel_rfl) (by decide) ?_
    simp only [List.take_succ_cons, List.take_zero, List.drop_succ_cons, List.drop_zero, Nat.reduceSub]
    repeat (go_big_quiet_step (fail))
    refine wpQuiet_nil ?_
    refine wpMix_nil ?_
    clear mk0 mk1 mk2 mn mH
    have KW := Lib.hid (KB.out.trans X5.out (T := None) (fun _ h => h) (fun _ _ h => h))
    have FL : Hid ((headL kd sq n ++ le4 sq ++ zs).length = 8 + n) := by
      show (headL kd sq n ++ le4 sq ++ zs).length = 8 + n
      simp [headL, le4, HL.out]; omega
    have PK : padK n = (8 - n % 8) % 8 := rfl
    have FR : Hid (frontL kd sq zs = headL kd sq n ++ le4 sq ++ zs ++ List.replicate (padK n) 0) := by
      show frontL kd sq zs = _
      unfold frontL; rw [HL.out, Int.toNat_natCast]
    generalize headL kd sq n ++ le4 sq ++ zs = F0 at *
    clear X5 BB FOUR HHD
    go_wp2
    go_loopg [4] (padK n) (fun g ov wr => ∃ q : Nat, q + g = padK n ∧ Own wr w.heap.size ov (F0 ++ List.replicate q 0) ∧ Keeps None w wr)
    case atStart => exact ⟨0, by omega, by simpa using O5.out, KW.out⟩
    case round =>
      obtain ⟨q, hqg, hO, hK⟩ := hrel
      obtain ⟨A6, cap6, rfl, bs6, -⟩ := hO.shape
      have hl6 : (F0 ++ List.replicate q (0 : Int)).length = 8 + n + q := by simp [FL.out]
      rw [hl6]
      have HO := Lib.hid hO
      have HK := Lib.hid hK
      have BS6 := Lib.hid bs6
      rw [hl6] at HO BS6
      clear hO hK bs6 KW O5
      by_cases hlt : q < padK n
      · obtain ⟨G, rfl⟩ : ∃ G, gk = G + 1 := ⟨gk - 1, by omega⟩
        have hmod : ((8 + (n : Int) + q) % 8 != 0) = true := by
          have : ¬ (8 + n + q) % 8 = 0 := by omega
          simp; omega
        go_wp2_with (at_builtin; refine Hid.out ?_)
        refine Lib.hid ?_
        refine wpList_append_bs (HO.out.alloc _) (Bs.oneAt _ _ rfl 0 (by decide)) (by simp [FL.out]; omega) (Nat.le_trans HK.out.size (by simp)) rfl rfl rfl rfl rfl ?_
        intro v' w4 ho4 hk4
        have H4 := Lib.hid (show Own w4 w.heap.size v' (F0 ++ List.replicate (q + 1) 0) from by rw [List.replicate_succ', ← List.append_assoc]; exact ho4)
        have K4 := Lib.hid ((HK.out.alloc (.cells #[.int .u8 0] 5)).trans hk4 (T := None) (fun _ h => h) (fun i hi e => absurd e (HO.out.notBelow hi)))
        clear ho4 hk4 HO HK BS6
        go_wp2
        go_roundg G
        case measure => omega
        case rel => exact ⟨q + 1, by omega, H4.out, K4.out⟩
      · obtain rfl : q = padK n := by omega
        have hmod : ((8 + (n : Int) + (padK n : Nat)) % 8 != 0) = false := by
          have : (8 + n + padK n) % 8 = 0 := by omega
          simp; omega
        rw [← FR.out] at BS6
        have pk8 : padK n < 8 := by omega
        clear PK
        generalize padK n = q at *
        have hS := crcOf_lt (natL_lt BS6.out.byte)
        have HF : Hid (tailL (frontL kd sq zs) = le4 (crcOf (natL (frontL kd sq zs))) ++ le4 (crcOf (natL (frontL kd sq zs)) ^^^ 4294967295)) := rfl
        generalize frontL kd sq zs = F at *
        have SU := Lib.hid (fun w h => ssum_any A6 (8 + n + q) cap6 F w h)
        generalize crcOf (natL F) = S at *
        have hT : S ^^^ 4294967295 < 4294967296 := Nat.xor_lt_two_pow (n := 32) hS (by decide)
        have NT := not32 S hS
        have F1 := Lib.hid (fun w => sfour_any S hS w)
        have F2 := Lib.hid (fun w => sfour_any (S ^^^ 4294967295) hT w)
        generalize S ^^^ 4294967295 = S2 at *
        have HFL := Lib.hid BS6.out.len
        clear HO hS hT HB FL hlt hqg FR
        go_wp2_with fail
        refine (SU.out _ BS6.out).mono ?_
        rintro e w7 ⟨rfl, k7⟩
        have K7 := Lib.hid (HK.out.trans k7 (T := None) (fun _ h => h) (fun _ _ h => h))
        have B7 := Lib.hid (BS6.out.keeps k7 (fun _ _ _ _ _ h => h))
        clear k7 HK BS6 SU
        go_wp2_with fail
        refine (F1.out _).mono ?_
        rintro e w8 ⟨v8, rfl, o8, k8⟩
        obtain ⟨A8, cap8, rfl, bs8, -⟩ := o8.shape
        have K8 := Lib.hid (K7.out.trans k8 (T := None) (fun _ h => h) (fun _ _ h => h))
        have B8 := Lib.hid (B7.out.keeps k8 (fun _ _ _ _ _ h => h))
        have C8 := Lib.hid bs8
        clear k8 o8 bs8 K7 B7 F1
        go_wp2_with fail
        refine (F2.out _).mono ?_
        rintro e w9 ⟨v9, rfl, o9, k9⟩
        obtain ⟨A9, cap9, rfl, bs9, -⟩ := o9.shape
        have K9 := Lib.hid (K8.out.trans k9 (T := None) (fun _ h => h) (fun _ _ h => h))
        have B9 := Lib.hid (B8.out.keeps k9 (fun _ _ _ _ _ h => h))
        have C9 := Lib.hid (C8.out.keeps k9 (fun _ _ _ _ _ h => h))
        have D9 := Lib.hid bs9
        clear k9 o9 bs9 K8 B8 C8 F2 NT
        go_wp2_with fail
        refine (concat_any [⟨A6, 8 + n + q, cap6, F⟩, ⟨A8, (le4 S).length, cap8, le4 S⟩, ⟨A9, (le4 S2).length, cap9, le4 S2⟩] 3 w9.heap.size 27 _ (Blk.newAt rfl [_, _, _] _) rfl (all_three (B9.out.alloc _) (C9.out.alloc _) (D9.out.alloc _)) (by simp [tot]; omega) (by simp [tot, le4]; omega) (by decide)).mono ?_
        rintro e w5 ⟨v5, rfl, o5, k5⟩
        have OF := Lib.hid (show Own w5 w.heap.size v5 (putL kd sq zs) from by
          rw [HP.out, HF.out]
          have := o5.lower (Nat.le_trans K9.out.size (by simp))
          simpa [cat] using this)
        have KF := Lib.hid ((K9.out.alloc (.cells #[.slice A6 (8 + n + q) cap6, .slice A8 (le4 S).length cap8, .slice A9 (le4 S2).length cap9] 27)).trans k5 (T := None) (fun _ h => h) (fun _ _ h => h))
        clear o5 k5 K9 B9 C9 D9
        go_wp2
        go_ret
        exact ⟨_, rfl, OF.out, KF.out⟩
  ·
    try dsimp only
    try simp only [List.take_succ_cons, List.take_zero, List.drop_succ_cons, List.drop_zero, Nat.reduceSub]
    refine wpMix_seg 8 (by kernel_rfl) (by decide) ?_
    simp only [List.take_succ_cons, List.take_zero, List.drop_succ_cons, List.drop_zero, Nat.reduceSub]
    repeat (go_big_quiet_step (fail))
    refine wpQuiet_nil ?_
    refine wpMix_nil ?_
    try dsimp only
    try simp only [List.take_succ_cons, List.take_zero, List.drop_succ_cons, List.drop_zero, Nat.reduceSub]
    refine wpMix_seg 3 (by kernel_rfl) (by decide) ?_
    simp only [List.take_succ_cons, List.take_zero, List.drop_succ_cons, List.drop_zero, Nat.reduceSub]
    repeat (go_big_quiet_step (fail))
    refine wpQuiet_nil ?_
    refine wpMix_eff (by kernel_rfl) ?_
    go_wp2_with fail
    refine (FOUR.out _).mono ?_
    rintro e w2 ⟨v2, rfl, o2, kq⟩
    obtain ⟨A2, cap2, rfl, bs2, -⟩ := o2.shape
    have X2 : Hid (Keeps None wb w2) := (Keeps.refl None wb).drew.trans kq (fun _ h => h) (fun _ _ h => h)
    have BS2 := Lib.hid bs2
    clear o2 kq bs2
    go_wp2
    refine MixK.on (InS.mk ((mH.out _).2 (⟨(X2.out.blk BB.out (fun h => h)).cellD 0 _ rfl, (X2.out.blk BB.out (fun h => h)).cellD 1 _ rfl, (X2.out.blk BB.out (fun h => h)).cellD 2 _ rfl⟩))) ?_
    refine wpMix_nil ?_
    try dsimp only
    try simp only [List.take_succ_cons, List.take_zero, List.drop_succ_cons, List.drop_zero, Nat.reduceSub]
    refine wpMix_eff (by kernel_rfl) ?_
    go_wp2
    have X3 : Hid (Keeps None wb (w2.alloc (.cells #[.int .u8 kd, .int .u8 0, .int .u8 ((n : Int) % 256), .int .u8 ((n : Int) / 256)] 5))) := X2.out.alloc _
    refine MixK.on (InS.mk ((mH.out _).2 (⟨(X3.out.blk BB.out (fun h => h)).cellD 0 _ rfl, (X3.out.blk BB.out (fun h => h)).cellD 1 _ rfl, (X3.out.blk BB.out (fun h => h)).cellD 2 _ rfl⟩))) ?_
    refine wpMix_nil ?_
    try dsimp only
    try simp only [List.take_succ_cons, List.take_zero, List.drop_succ_cons, List.drop_zero, Nat.reduceSub]
    refine wpMix_seg 2 (by kernel_rfl) (by decide) ?_
    simp only [List.take_succ_cons, List.take_zero, List.drop_succ_cons, List.drop_zero, Nat.reduceSub]
    repeat (go_big_quiet_step (fail))
    refine wpQuiet_nil ?_
    refine wpMix_eff (by kernel_rfl) ?_
    go_wp2
    have X4 : Hid (Keeps None wb ((w2.alloc (.cells #[.int .u8 kd, .int .u8 0, .int .u8 ((n : Int) % 256), .int .u8 ((n : Int) / 256)] 5)).alloc (.cells #[.slice (some ⟨w2.heap.size, 0, none⟩) 4 4, .slice A2 (le4 sq).length cap2, .slice A n cap] 27))) := X3.out.alloc _
    refine MixK.on (InS.mk ((mH.out _).2 (⟨(X4.out.blk BB.out (fun h => h)).cellD 0 _ rfl, (X4.out.blk BB.out (fun h => h)).cellD 1 _ rfl, (X4.out.blk BB.out (fun h => h)).cellD 2 _ rfl⟩))) ?_
    refine wpMix_eff (by kernel_rfl) ?_
    go_wp2_with fail
    refine (concat_any [⟨some ⟨w2.heap.size, 0, none⟩, 4, 4, headL kd sq n⟩, ⟨A2, (le4 sq).length, cap2, le4 sq⟩, ⟨A, n, cap, zs⟩] 3 (w2.heap.size + 1) 27 _ (Blk.newAt (by simp) [_, _, _] _) rfl (all_three ((lit_bs w2 _ rfl (headL kd sq n) HHD.out (by simp [headL])).alloc _) ((BS2.out.alloc _).alloc _) ((HB.out.keeps KB.out (fun _ _ _ _ _ h => h)).keeps X4.out (fun _ _ _ _ _ h => h))) (by simp [tot]; omega) (by simp [tot, le4]; omega) (by decide)).mono ?_
    rintro e w5 ⟨v5, rfl, o5, k5⟩
    have X5 : Hid (Keeps None wb w5) := X4.out.trans k5 (fun _ h => h) (fun _ _ h => h)
    have O5 := Lib.hid (show Own w5 w.heap.size v5 (headL kd sq n ++ le4 sq ++ zs) from by have := o5.lower (Nat.le_trans KB.out.size X4.out.size); simpa [cat] using this)
    clear o5 k5 X4 X3 BS2 X2
    go_wp2
    refine MixK.on (InS.mk ((mH.out _).2 (⟨(X5.out.blk BB.out (fun h => h)).cellD 0 _ rfl, (X5.out.blk BB.out (fun h => h)).cellD 1 _ rfl, (X5.out.blk BB.out (fun h => h)).cellD 2 _ rfl⟩))) ?_
    refine wpMix_seg 1 (by kernel_rfl) (by decide) ?_
    simp only [List.take_succ_cons, List.take_zero, List.drop_succ_cons, List.drop_zero, Nat.reduceSub]
    repeat (go_big_quiet_step (fail))
    refine wpQuiet_nil ?_
    refine wpMix_nil ?_
    clear mk0 mk1 mk2 mn mH
    have KW := Lib.hid (KB.out.trans X5.out (T := None) (fun _ h => h) (fun _ _ h => h))
    have FL : Hid ((headL kd sq n ++ le4 sq ++ zs).length = 8 + n) := by
      show (headL kd sq n ++ le4 sq ++ zs).length = 8 + n
      simp [headL, le4, HL.out]; omega
    have PK : padK n = (8 - n % 8) % 8 := rfl
    have FR : Hid (frontL kd sq zs = headL kd sq n ++ le4 sq ++ zs ++ List.replicate (padK n) 0) := by
      show frontL kd sq zs = _
      unfold frontL; rw [HL.out, Int.toNat_natCast]
    generalize headL kd sq n ++ le4 sq ++ zs = F0 at *
    clear X5 BB FOUR HHD
    go_wp2
    go_loopg [4] (padK n) (fun g ov wr => ∃ q : Nat, q + g = padK n ∧ Own wr w.heap.size ov (F0 ++ List.replicate q 0) ∧ Keeps None w wr)
    case atStart => exact ⟨0, by omega, by simpa using O5.out, KW.out⟩
    case round =>
      obtain ⟨q, hqg, hO, hK⟩ := hrel
      obtain ⟨A6, cap6, rfl, bs6, -⟩ := hO.shape
      have hl6 : (F0 ++ List.replicate q (0 : Int)).length = 8 + n + q := by simp [FL.out]
      rw [hl6]
      have HO := Lib.hid hO
      have HK := Lib.hid hK
      have BS6 := Lib.hid bs6
      rw [hl6] at HO BS6
      clear hO hK bs6 KW O5
      by_cases hlt : q < padK n
      · obtain ⟨G, rfl⟩ : ∃ G, gk = G + 1 := ⟨gk - 1, by omega⟩
        have hmod : ((8 + (n : Int) + q) % 8 != 0) = true := by
          have : ¬ (8 + n + q) % 8 = 0 := by omega
          simp; omega
        go_wp2_with (at_builtin; refine Hid.out ?_)
        refine Lib.hid ?_
        refine wpList_append_bs (HO.out.alloc _) (Bs.oneAt _ _ rfl 0 (by decide)) (by simp [FL.out]; omega) (Nat.le_trans HK.out.size (by simp)) rfl rfl rfl rfl rfl ?_
        intro v' w4 ho4 hk4
        have H4 := Lib.hid (show Own w4 w.heap.size v' (F0 ++ List.replicate (q + 1) 0) from by rw [List.replicate_succ', ← List.append_assoc]; exact ho4)
        have K4 := Lib.hid ((HK.out.alloc (.cells #[.int .u8 0] 5)).trans hk4 (T := None) (fun _ h => h) (fun i hi e => absurd e (HO.out.notBelow hi)))
        clear ho4 hk4 HO HK BS6
        go_wp2
        go_roundg G
        case measure => omega
        case rel => exact ⟨q + 1, by omega, H4.out, K4.out⟩
      · obtain rfl : q = padK n := by omega
        have hmod : ((8 + (n : Int) + (padK n : Nat)) % 8 != 0) = false := by
          have : (8 + n + padK n) % 8 = 0 := by omega
          simp; omega
        rw [← FR.out] at BS6
        have pk8 : padK n < 8 := by omega
        clear PK
        generalize padK n = q at *
        have hS := crcOf_lt (natL_lt BS6.out.byte)
        have HF : Hid (tailL (frontL kd sq zs) = le4 (crcOf (natL (frontL kd sq zs))) ++ le4 (crcOf (natL (frontL kd sq zs)) ^^^ 4294967295)) := rfl
        generalize frontL kd sq zs = F at *
        have SU := Lib.hid (fun w h => ssum_any A6 (8 + n + q) cap6 F w h)
        generalize crcOf (natL F) = S at *
        have hT : S ^^^ 4294967295 < 4294967296 := Nat.xor_lt_two_pow (n := 32) hS (by decide)
        have NT := not32 S hS
        have F1 := Lib.hid (fun w => sfour_any S hS w)
        have F2 := Lib.hid (fun w => sfour_any (S ^^^ 4294967295) hT w)
        generalize S ^^^ 4294967295 = S2 at *
        have HFL := Lib.hid BS6.out.len
        clear HO hS hT HB FL hlt hqg FR
        go_wp2_with fail
        refine (SU.out _ BS6.out).mono ?_
        rintro e w7 ⟨rfl, k7⟩
        have K7 := Lib.hid (HK.out.trans k7 (T := None) (fun _ h => h) (fun _ _ h => h))
        have B7 := Lib.hid (BS6.out.keeps k7 (fun _ _ _ _ _ h => h))
        clear k7 HK BS6 SU
        go_wp2_with fail
        refine (F1.out _).mono ?_
        rintro e w8 ⟨v8, rfl, o8, k8⟩
        obtain ⟨A8, cap8, rfl, bs8, -⟩ := o8.shape
        have K8 := Lib.hid (K7.out.trans k8 (T := None) (fun _ h => h) (fun _ _ h => h))
        have B8 := Lib.hid (B7.out.keeps k8 (fun _ _ _ _ _ h => h))
        have C8 := Lib.hid bs8
        clear k8 o8 bs8 K7 B7 F1
        go_wp2_with fail
        refine (F2.out _).mono ?_
        rintro e w9 ⟨v9, rfl, o9, k9⟩
        obtain ⟨A9, cap9, rfl, bs9, -⟩ := o9.shape
        have K9 := Lib.hid (K8.out.trans k9 (T := None) (fun _ h => h) (fun _ _ h => h))
        have B9 := Lib.hid (B8.out.keeps k9 (fun _ _ _ _ _ h => h))
        have C9 := Lib.hid (C8.out.keeps k9 (fun _ _ _ _ _ h => h))
        have D9 := Lib.hid bs9
        clear k9 o9 bs9 K8 B8 C8 F2 NT
        go_wp2_with fail
        refine (concat_any [⟨A6, 8 + n + q, cap6, F⟩, ⟨A8, (le4 S).length, cap8, le4 S⟩, ⟨A9, (le4 S2).length, cap9, le4 S2⟩] 3 w9.heap.size 27 _ (Blk.newAt rfl [_, _, _] _) rfl (all_three (B9.out.alloc _) (C9.out.alloc _) (D9.out.alloc _)) (by simp [tot]; omega) (by simp [tot, le4]; omega) (by decide)).mono ?_
        rintro e w5 ⟨v5, rfl, o5, k5⟩
        have OF := Lib.hid (show Own w5 w.heap.size v5 (putL kd sq zs) from by
          rw [HP.out, HF.out]
          have := o5.lower (Nat.le_trans K9.out.size (by simp))
          simpa [cat] using this)
        have KF := Lib.hid ((K9.out.alloc (.cells #[.slice A6 (8 + n + q) cap6, .slice A8 (le4 S).length cap8, .slice A9 (le4 S2).length cap9] 27)).trans k5 (T := None) (fun _ h => h) (fun _ _ h => h))
        clear o5 k5 K9 B9 C9 D9
        go_wp2
        go_ret
        exact ⟨_, rfl, OF.out, KF.out⟩
end Go.Proofs.Ytfldgaiiniknpaa
/- And, or, xor of int's that are not negative. -/
namespace Go.Proofs.Ytfldgaiiniknpaa
theorem ofInt_i64 (a : Nat) (ha : a < 9223372036854775808) : (BitVec.ofInt 64 (a : Int)).toNat = a := by
  rw [BitVec.ofInt_natCast, BitVec.toNat_ofNat]; exact Nat.mod_eq_of_lt (by omega)
theorem wrap_nat (x : Nat) (h : x < 9223372036854775808) : IntKind.i64.wrap (x : Int) = x := by
  simp [IntKind.wrap, IntKind.bits, IntKind.signed]; omega
theorem i64_and_nat (a b : Nat) (ha : a < 9223372036854775808) (hb : b < 9223372036854775808) : bits .and .i64 (a : Int) (b : Int) = ((a &&& b : Nat) : Int) := by
  have hx : a &&& b < 2 ^ 63 := Nat.and_lt_two_pow _ (by omega)
  show IntKind.i64.wrap ((BitVec.ofInt 64 (a : Int) &&& BitVec.ofInt 64 (b : Int)).toNat : Int) = _
  rw [BitVec.toNat_and, ofInt_i64 a ha, ofInt_i64 b hb]
  exact wrap_nat _ (by omega)
theorem i64_or_nat (a b : Nat) (ha : a < 9223372036854775808) (hb : b < 9223372036854775808) : bits .or .i64 (a : Int) (b : Int) = ((a ||| b : Nat) : Int) := by
  have hx : a ||| b < 2 ^ 63 := Nat.or_lt_two_pow (by omega) (by omega)
  show IntKind.i64.wrap ((BitVec.ofInt 64 (a : Int) ||| BitVec.ofInt 64 (b : Int)).toNat : Int) = _
  rw [BitVec.toNat_or, ofInt_i64 a ha, ofInt_i64 b hb]
  exact wrap_nat _ (by omega)
theorem i64_and_one (a : Nat) (ha : a < 9223372036854775808) : bits .and .i64 (a : Int) 1 = ((a % 2 : Nat) : Int) := by
  have := i64_and_nat a 1 ha (by decide)
  rw [nat_mask1] at this
  exact this
end Go.Proofs.Ytfldgaiiniknpaa
/- The walk of bytes.Equal and seal.Get. -/
namespace Go.Proofs.Ytfldgaiiniknpaa
open Go.RowKit

theorem strOf_data (zs : List Int) (acc : ByteArray) : (zs.foldl (fun r n => r.push (UInt8.ofNat n.toNat)) acc).data.toList = acc.data.toList ++ zs.map (fun n => UInt8.ofNat n.toNat) := by
  induction zs generalizing acc with
  | nil => simp
  | cons z zs ih => rw [List.foldl_cons, ih, List.map_cons]; simp [ByteArray.push]
theorem strOf_inj {xs ys : List Int} (hx : ∀ z ∈ xs, 0 ≤ z ∧ z ≤ 255) (hy : ∀ z ∈ ys, 0 ≤ z ∧ z ≤ 255) (h : (strOf xs).data.toList = (strOf ys).data.toList) : xs = ys := by
  have h1 : xs.map (fun n => UInt8.ofNat n.toNat) = ys.map (fun n => UInt8.ofNat n.toNat) := by
    simp only [strOf, strOf_data] at h
    simpa using h
  have back : ∀ l : List Int, (∀ z ∈ l, 0 ≤ z ∧ z ≤ 255) → (l.map (fun n => UInt8.ofNat n.toNat)).map (fun b => (b.toNat : Int)) = l := by
    intro l hl
    induction l with
    | nil => rfl
    | cons z l ih =>
      have hz := hl z List.mem_cons_self
      simp only [List.map_cons]
      rw [ih (fun y hy => hl y (List.mem_cons_of_mem _ hy))]
      congr 1
      have : z.toNat < 256 := by omega
      rw [UInt8.toNat_ofNat']
      have e : z.toNat % 2 ^ 8 = z.toNat := Nat.mod_eq_of_lt this
      rw [e]; omega
  rw [← back xs hx, ← back ys hy, h1]
theorem strOf_beq {xs ys : List Int} (hx : ∀ z ∈ xs, 0 ≤ z ∧ z ≤ 255) (hy : ∀ z ∈ ys, 0 ≤ z ∧ z ≤ 255) : ((strOf xs).toList == (strOf ys).toList) = decide (xs = ys) := by
  rw [Lib.toList_data, Lib.toList_data]
  by_cases h : xs = ys
  · subst h; simp
  · rw [decide_eq_false h]
    cases hb : ((strOf xs).data.toList == (strOf ys).data.toList) with
    | false => rfl
    | true => exact absurd (strOf_inj hx hy (by simpa using hb)) h

set_option maxRecDepth 100000 in
theorem bequal_any (A B : Option Addr) (n m c d : Nat) (xs ys : List Int) (w : World) (hx : Bs w A n c xs) (hy : Bs w B m d ys) :
    Calls Try.prog 33 #[.slice A n c, .slice B m d] w fun e w' => e = .returned (.bool (decide (xs = ys))) ∧ w = w' := by
  have h1 := run_str hx
  have h2 := run_str hy
  have E := Lib.hid (strOf_beq hx.byte hy.byte)
  generalize strOf xs = sx at *
  generalize strOf ys = sy at *
  go_enter Try.func33, Try.ntmps33
  go_wp2
  go_ret
  exact ⟨by rw [← E.out]; first | rfl | (congr 2; simp), rfl⟩

/-- What bytes begin with: kind, number, body, how many bytes. -/
def getL (zs : List Int) : Option (Int × Int × List Int × Int) :=
  if zs.length < 16 then none else
  let n : Int := zs.getD 2 0 + zs.getD 3 0 * 256
  if sizeZ n = 0 ∨ (zs.length : Int) < sizeZ n then none else
  let seq : Int := zs.getD 4 0 + zs.getD 5 0 * 256 + zs.getD 6 0 * 65536 + zs.getD 7 0 * 16777216
  let body := (zs.drop 8).take n.toNat
  if putL (zs.getD 0 0) seq body = zs.take (sizeZ n).toNat then some (zs.getD 0 0, seq, body, sizeZ n) else none
/-- What Get tells. -/
def GetIs (zs : List Int) (k s : Int) (bl : List Int) (n : Int) (ok : Bool) : Prop :=
  (ok = true ∧ getL zs = some (k, s, bl, n)) ∨ (ok = false ∧ getL zs = none ∧ k = 0 ∧ s = 0 ∧ bl = [] ∧ n = 0)
theorem or_two (a b : Nat) (ha : a < 256) (hb : b < 256) : bits .or .i64 (a : Int) ((b : Int) * 256) = ((a + b * 256 : Nat) : Int) := by
  have := i64_or_nat a (b * 256) (by omega) (by omega)
  rw [Nat.or_comm, nat_join 8 (b * 256) a (by omega) (by omega)] at this
  rw [Nat.add_comm a]
  exact this
theorem or_three (a b : Nat) (ha : a < 65536) (hb : b < 256) : bits .or .i64 (a : Int) ((b : Int) * 65536) = ((a + b * 65536 : Nat) : Int) := by
  have := i64_or_nat a (b * 65536) (by omega) (by omega)
  rw [Nat.or_comm, nat_join 16 (b * 65536) a (by omega) (by omega)] at this
  rw [Nat.add_comm a]
  exact this
theorem or_four (a b : Nat) (ha : a < 16777216) (hb : b < 256) : bits .or .i64 (a : Int) ((b : Int) * 16777216) = ((a + b * 16777216 : Nat) : Int) := by
  have := i64_or_nat a (b * 16777216) (by omega) (by omega)
  rw [Nat.or_comm, nat_join 24 (b * 16777216) a (by omega) (by omega)] at this
  rw [Nat.add_comm a]
  exact this
end Go.Proofs.Ytfldgaiiniknpaa
/- The walk of seal.Get. -/
namespace Go.Proofs.Ytfldgaiiniknpaa
open Go.RowKit

theorem results_cell3 {fn : Func} {p u v : Tmp} {ty : TypeId} (h : fn.results = #[.cell p ty, .tmp u, .tmp v]) (tmps : Array Value) (P : Program) (w : World) :
    (results fn tmps).run P w = ((asAddr (tmps.getD p undef)).run P w).andThen fun a w₁ => ((loadVar ty a).run P w₁).andThen fun x w₂ => .ok (.tuple #[x, tmps.getD u undef, tmps.getD v undef]) w₂ := by
  simp only [results, h]
  simp [Sem.run_bind, Result.andThen]
theorem Try.info58 : (Try.prog.info? 58).map (fun i => (i.zero, i.size)) = some (some (.agg #[.int .i64 0, .int .i64 0, .slice none 0 0]), 3) := by kernel_rfl
theorem get_res {w : World} {g : Nat} {a b c x y : Value} {T : TypeId} (tmps : Array Value) (h : Blk w g [a, b, c] T) (h2 : tmps.getD 2 undef = .pointer (some ⟨g, 0, none⟩)) (h3 : tmps.getD 3 undef = x) (h4 : tmps.getD 4 undef = y) :
    (results Try.f76 tmps).run Try.prog w = .ok (.tuple #[.agg #[a, b, c], x, y]) w := by
  have hl : (loadVar 58 ⟨g, 0, none⟩).run Try.prog w = .ok (.agg #[a, b, c]) w :=
    run_loadVar_row w g T 58 #[a, b, c] (0, 0) _ h Try.underlying58 rfl (by rw [(zero_of_info Try.info58).2]; rfl)
  rw [results_cell3 (p := 2) (u := 3) (v := 4) (ty := 58) rfl, h2, h3, h4]
  simp only [asAddr, Sem.run_pure, Result.andThen_ok, hl]

def GetTold (w : World) (zs : List Int) (e : Ending) (w' : World) : Prop :=
  ∃ k s v bl n ok, e = .returned (.tuple #[.agg #[.int .i64 k, .int .i64 s, v], .int .i64 n, .bool ok]) ∧ Own w' w.heap.size v bl ∧ Keeps None w w' ∧ GetIs zs k s bl n ok


set_option maxRecDepth 100000 in
set_option maxHeartbeats 3200000 in
theorem sget_any (A : Option Addr) (L cap : Nat) (zs : List Int) (w : World) (h : Bs w A L cap zs) (hL : L ≤ 1000000) : Calls Try.prog 76 #[.slice A L cap] w (GetTold w zs) := by
  have hl := h.len
  have hle := h.le
  have hmx := h.max
  by_cases g1 : L < 16
  · have d1 : decide ((L : Int) < 16) = true := decide_eq_true (by omega)
    have GN : Hid (getL zs = none) := by unfold getL; exact if_pos (by omega)
    clear h
    go_enter Try.func76, Try.ntmps76
    go_wp2
    refine bodyPost_ret (get_res _ (Blk.new w [.int .i64 0, .int .i64 0, .slice none 0 0] 58) rfl rfl rfl) rfl ?_
    exact ⟨0, 0, _, [], 0, false, rfl, Own.nil _ _, (Keeps.refl None w).alloc _, .inr ⟨rfl, GN.out, rfl, rfl, rfl, rfl⟩⟩
  have d1 : decide ((L : Int) < 16) = false := decide_eq_false (by omega)
  obtain ⟨bl, off, z0, rfl, hz0, a0, b0, -⟩ := h.get (i := 0) (by omega)
  obtain ⟨_, _, z2, ee, hz2, a2, b2, x2⟩ := h.get (i := 2) (by omega)
  cases ee
  obtain ⟨_, _, z3, ee, hz3, a3, b3, x3⟩ := h.get (i := 3) (by omega)
  cases ee
  obtain ⟨_, _, z4, ee, hz4, a4, b4, x4⟩ := h.get (i := 4) (by omega)
  cases ee
  obtain ⟨_, _, z5, ee, hz5, a5, b5, x5⟩ := h.get (i := 5) (by omega)
  cases ee
  obtain ⟨_, _, z6, ee, hz6, a6, b6, x6⟩ := h.get (i := 6) (by omega)
  cases ee
  obtain ⟨_, _, z7, ee, hz7, a7, b7, x7⟩ := h.get (i := 7) (by omega)
  cases ee
  obtain ⟨_, _, z0', ee, hz0', -, -, x0⟩ := h.get (i := 0) (by omega)
  cases ee
  obtain rfl : z0' = z0 := by rw [← hz0', hz0]
  obtain ⟨c0, rfl⟩ : ∃ c : Nat, z0' = c := ⟨z0'.toNat, by omega⟩
  obtain ⟨c2, rfl⟩ : ∃ c : Nat, z2 = c := ⟨z2.toNat, by omega⟩
  obtain ⟨c3, rfl⟩ : ∃ c : Nat, z3 = c := ⟨z3.toNat, by omega⟩
  obtain ⟨c4, rfl⟩ : ∃ c : Nat, z4 = c := ⟨z4.toNat, by omega⟩
  obtain ⟨c5, rfl⟩ : ∃ c : Nat, z5 = c := ⟨z5.toNat, by omega⟩
  obtain ⟨c6, rfl⟩ : ∃ c : Nat, z6 = c := ⟨z6.toNat, by omega⟩
  obtain ⟨c7, rfl⟩ : ∃ c : Nat, z7 = c := ⟨z7.toNat, by omega⟩
  have XC := Lib.hid (fun (w' : World) (hk : Keeps None w w') => show w'.cell? ⟨bl, off + 0, none⟩ = some (.int .u8 c0) ∧ w'.cell? ⟨bl, off + 2, none⟩ = some (.int .u8 c2) ∧ w'.cell? ⟨bl, off + 3, none⟩ = some (.int .u8 c3) ∧ w'.cell? ⟨bl, off + 4, none⟩ = some (.int .u8 c4) ∧ w'.cell? ⟨bl, off + 5, none⟩ = some (.int .u8 c5) ∧ w'.cell? ⟨bl, off + 6, none⟩ = some (.int .u8 c6) ∧ w'.cell? ⟨bl, off + 7, none⟩ = some (.int .u8 c7) from by
    have hbl : bl < w.heap.size := by obtain ⟨b', o', e, hb, _⟩ := h.at_ (by omega); cases e; exact hb
    exact ⟨(hk.cell hbl (fun h => h)).trans x0, (hk.cell hbl (fun h => h)).trans x2, (hk.cell hbl (fun h => h)).trans x3, (hk.cell hbl (fun h => h)).trans x4, (hk.cell hbl (fun h => h)).trans x5, (hk.cell hbl (fun h => h)).trans x6, (hk.cell hbl (fun h => h)).trans x7⟩)
  have HB := Lib.hid h
  have i0 : 0 < L := by omega
  have i2 : 2 < L := by omega
  have i3 : 3 < L := by omega
  have i4 : 4 < L := by omega
  have i5 : 5 < L := by omega
  have i6 : 6 < L := by omega
  have i7 : 7 < L := by omega
  obtain ⟨nn, hnn⟩ : ∃ nn, nn = c2 + c3 * 256 := ⟨_, rfl⟩
  have e1 := or_two c2 c3 (by omega) (by omega)
  rw [← hnn] at e1
  obtain ⟨s1, hs1⟩ : ∃ s1, s1 = c4 + c5 * 256 := ⟨_, rfl⟩
  have e4 := or_two c4 c5 (by omega) (by omega)
  rw [← hs1] at e4
  obtain ⟨s2, hs2⟩ : ∃ s2, s2 = s1 + c6 * 65536 := ⟨_, rfl⟩
  have e5 := or_three s1 c6 (by omega) (by omega)
  rw [← hs2] at e5
  obtain ⟨s3, hs3⟩ : ∃ s3, s3 = s2 + c7 * 16777216 := ⟨_, rfl⟩
  have e6 := or_four s2 c7 (by omega) (by omega)
  rw [← hs3] at e6
  have s3b : s3 < 4294967296 := by omega
  have nnb : nn < 65536 := by omega
  have GL : Hid (getL zs = if sizeZ nn = 0 ∨ (L : Int) < sizeZ nn then none else if putL c0 s3 ((zs.drop 8).take nn) = zs.take (sizeZ nn).toNat then some ((c0 : Int), (s3 : Int), (zs.drop 8).take nn, sizeZ nn) else none) := by
    show getL zs = _
    unfold getL
    rw [if_neg (by omega), hz0, hz2, hz3, hz4, hz5, hz6, hz7]
    have q1 : (c2 : Int) + c3 * 256 = nn := by omega
    have q2 : (c4 : Int) + c5 * 256 + c6 * 65536 + c7 * 16777216 = s3 := by omega
    simp only [q1, q2, hl, Int.toNat_natCast]
  clear hz0 hz0' hz2 hz3 hz4 hz5 hz6 hz7 hnn hs1 hs2 hs3 x0 x2 x3 x4 x5 x6 x7 h hl g1
  go_enter Try.func76, Try.ntmps76
  go_wp2
  obtain ⟨wb, hwb⟩ : ∃ x, w.alloc (.cells #[.int .i64 0, .int .i64 0, .slice none 0 0] 58) = x := ⟨_, rfl⟩
  have BB : Hid (Blk wb w.heap.size [.int .i64 0, .int .i64 0, .slice none 0 0] 58) := by rw [← hwb]; exact Blk.new w [.int .i64 0, .int .i64 0, .slice none 0 0] 58
  have KB : Hid (Keeps None w wb) := by rw [← hwb]; exact (Keeps.refl None w).alloc _
  rw [hwb]
  clear hwb
  obtain ⟨mS, mh⟩ : ∃ S : World → Prop, ∀ w', S w' ↔ (w'.cell? ⟨bl, off + 2, none⟩ = some (.int .u8 c2) ∧ w'.cell? ⟨bl, off + 3, none⟩ = some (.int .u8 c3)) := ⟨_, fun _ => Iff.rfl⟩
  have mk0 : ∀ x : Memb mS, x.at_.cell? ⟨bl, off + 2, none⟩ = some (.int .u8 c2) := fun x => ((mh _).1 x.is).1
  have mk1 : ∀ x : Memb mS, x.at_.cell? ⟨bl, off + 3, none⟩ = some (.int .u8 c3) := fun x => ((mh _).1 x.is).2
  have mn : Nonempty (Memb mS) := ⟨⟨(wb).drew, (mh _).2 ⟨(XC.out wb KB.out).2.1, (XC.out wb KB.out).2.2.1⟩⟩⟩
  have mH := Lib.hid mh
  clear mh
  refine wp_region_mix [] (InS mS) (by kernel_rfl) (by kernel_rfl) (InS.mk ((mH.out _).2 ⟨(XC.out wb KB.out).2.1, (XC.out wb KB.out).2.2.1⟩)) ?_
  refine wpMix_seg 11 (by kernel_rfl) (by decide) ?_
  simp only [List.take_succ_cons, List.take_zero, List.drop_succ_cons, List.drop_zero]
  repeat (go_big_quiet_step (fail))
  refine wpQuiet_nil ?_
  refine wpMix_nil ?_
  clear mk0 mk1 mn mH
  go_wp2_with fail
  refine (ssize_any nn _).mono ?_
  rintro e w' ⟨rfl, rfl⟩
  by_cases g2 : 512 < nn
  · have z1 : sizeZ nn = 0 := if_pos (.inr (by omega))
    have GN : Hid (getL zs = none) := by rw [GL.out]; exact if_pos (.inl z1)
    rw [z1]
    clear GL HB e4 e5 e6 XC
    have qq0 := Blk.cellD (BB.out) 0 _ rfl
    have qq1 := Blk.cellD (BB.out) 1 _ rfl
    have qq2 := Blk.cellD (BB.out) 2 _ rfl
    have qf0 := Blk.frozen (BB.out) 0
    have qf1 := Blk.frozen (BB.out) 1
    have qf2 := Blk.frozen (BB.out) 2
    go_wp2
    refine bodyPost_ret (get_res _ ((((Blk.set (BB.out.drew) 0 _)).set 1 _).set 2 _) rfl rfl rfl) rfl ?_
    exact ⟨0, 0, _, [], 0, false, rfl, Own.nil _ _, ((Keeps.setCell (KB.out.drew) _ _ (fun h => absurd h (Nat.lt_irrefl _))).setCell _ _ (fun h => absurd h (Nat.lt_irrefl _))).setCell _ _ (fun h => absurd h (Nat.lt_irrefl _)), .inr ⟨rfl, GN.out, rfl, rfl, rfl, rfl⟩⟩
  obtain ⟨sz, hsz⟩ : ∃ sz : Nat, sizeZ nn = sz := ⟨(sizeZ nn).toNat, by unfold sizeZ; split <;> omega⟩
  have hsz2 : sz = 16 + (nn + 7) / 8 * 8 := by
    have : sizeZ nn = 16 + ((nn : Int) + 7) / 8 * 8 := if_neg (by omega)
    omega
  rw [hsz] at GL ⊢
  have HSZ2 := Lib.hid hsz2
  have szb : nn + 16 ≤ sz := by omega
  have szc : sz ≤ 600 := by omega
  clear hsz hsz2
  by_cases g3 : L < sz
  · have z1 : ((sz : Int) == 0) = false := by simp; omega
    have z2 : decide ((L : Int) < sz) = true := decide_eq_true (by omega)
    have GN : Hid (getL zs = none) := by rw [GL.out]; exact if_pos (.inr (by omega))
    clear GL HB e4 e5 e6 XC
    have qq0 := Blk.cellD (BB.out) 0 _ rfl
    have qq1 := Blk.cellD (BB.out) 1 _ rfl
    have qq2 := Blk.cellD (BB.out) 2 _ rfl
    have qf0 := Blk.frozen (BB.out) 0
    have qf1 := Blk.frozen (BB.out) 1
    have qf2 := Blk.frozen (BB.out) 2
    go_wp2
    refine bodyPost_ret (get_res _ ((((Blk.set (BB.out.drew) 0 _)).set 1 _).set 2 _) rfl rfl rfl) rfl ?_
    exact ⟨0, 0, _, [], 0, false, rfl, Own.nil _ _, ((Keeps.setCell (KB.out.drew) _ _ (fun h => absurd h (Nat.lt_irrefl _))).setCell _ _ (fun h => absurd h (Nat.lt_irrefl _))).setCell _ _ (fun h => absurd h (Nat.lt_irrefl _)), .inr ⟨rfl, GN.out, rfl, rfl, rfl, rfl⟩⟩
  have z1 : ((sz : Int) == 0) = false := by simp; omega
  have z2 : decide ((L : Int) < sz) = false := decide_eq_false (by omega)
  have GL2 : Hid (getL zs = if putL c0 s3 ((zs.drop 8).take nn) = zs.take sz then some ((c0 : Int), (s3 : Int), (zs.drop 8).take nn, (sz : Int)) else none) := by
    show getL zs = _
    rw [GL.out, if_neg (show ¬ ((sz : Int) = 0 ∨ (L : Int) < sz) by omega), Int.toNat_natCast]
  clear GL
  go_wp2
  obtain ⟨mS, mh⟩ : ∃ S : World → Prop, ∀ w', S w' ↔ (w'.cell? ⟨bl, off + 4, none⟩ = some (.int .u8 c4) ∧ w'.cell? ⟨bl, off + 5, none⟩ = some (.int .u8 c5) ∧ w'.cell? ⟨bl, off + 6, none⟩ = some (.int .u8 c6) ∧ w'.cell? ⟨bl, off + 7, none⟩ = some (.int .u8 c7)) := ⟨_, fun _ => Iff.rfl⟩
  have mk0 : ∀ x : Memb mS, x.at_.cell? ⟨bl, off + 4, none⟩ = some (.int .u8 c4) := fun x => ((mh _).1 x.is).1
  have mk1 : ∀ x : Memb mS, x.at_.cell? ⟨bl, off + 5, none⟩ = some (.int .u8 c5) := fun x => ((mh _).1 x.is).2.1
  have mk2 : ∀ x : Memb mS, x.at_.cell? ⟨bl, off + 6, none⟩ = some (.int .u8 c6) := fun x => ((mh _).1 x.is).2.2.1
  have mk3 : ∀ x : Memb mS, x.at_.cell? ⟨bl, off + 7, none⟩ = some (.int .u8 c7) := fun x => ((mh _).1 x.is).2.2.2
  have mn : Nonempty (Memb mS) := ⟨⟨(wb.drew).drew, (mh _).2 ⟨(XC.out _ KB.out.drew).2.2.2.1, (XC.out _ KB.out.drew).2.2.2.2.1, (XC.out _ KB.out.drew).2.2.2.2.2.1, (XC.out _ KB.out.drew).2.2.2.2.2.2⟩⟩⟩
  have mH := Lib.hid mh
  clear mh
  refine wp_region_mix [] (InS mS) (by kernel_rfl) (by kernel_rfl) (InS.mk ((mH.out _).2 ⟨(XC.out _ KB.out.drew).2.2.2.1, (XC.out _ KB.out.drew).2.2.2.2.1, (XC.out _ KB.out.drew).2.2.2.2.2.1, (XC.out _ KB.out.drew).2.2.2.2.2.2⟩)) ?_
  refine wpMix_seg 23 (by kernel_rfl) (by decide) ?_
  simp only [List.take_succ_cons, List.take_zero, List.drop_succ_cons, List.drop_zero]
  repeat (go_big_quiet_step (fail))
  refine wpQuiet_nil ?_
  refine wpMix_nil ?_
  clear mk0 mk1 mk2 mk3 mn mH
  go_wp2
  clear e1 e4 e5 e6 z1 z2
  obtain ⟨wc, hwc⟩ : ∃ x, wb.drew.drew = x := ⟨_, rfl⟩
  have BC : Hid (Blk wc w.heap.size [.int .i64 0, .int .i64 0, .slice none 0 0] 58) := by rw [← hwc]; exact BB.out.drew.drew
  have KC : Hid (Keeps None w wc) := by rw [← hwc]; exact KB.out.drew.drew
  rw [hwc]
  clear hwc BB KB
  have hc8 : ¬ cap = 8 := by omega
  have BODY := Lib.hid ((HB.out.drop (k := 8) (by omega)).take (k := nn) (by omega))
  have PRE := Lib.hid (HB.out.take (k := sz) (by omega))
  obtain ⟨bd, hbd⟩ : ∃ bd, (zs.drop 8).take nn = bd := ⟨_, rfl⟩
  rw [hbd] at BODY GL2
  have HBL := Lib.hid BODY.out.len
  have X0 := Lib.hid (fun (w' : World) (hk : Keeps None w w') => (show w'.cell? ⟨bl, off, none⟩ = some (.int .u8 c0) from (XC.out w' hk).1))
  clear hbd XC
  obtain ⟨mS, mh⟩ : ∃ S : World → Prop, ∀ w', S w' ↔ (w'.cell? ⟨bl, off, none⟩ = some (.int .u8 c0)) := ⟨_, fun _ => Iff.rfl⟩
  have mk0 : ∀ x : Memb mS, x.at_.cell? ⟨bl, off, none⟩ = some (.int .u8 c0) := fun x => ((mh _).1 x.is)
  have mn : Nonempty (Memb mS) := ⟨⟨(wc).drew, (mh _).2 (X0.out _ KC.out.drew)⟩⟩
  have mH := Lib.hid mh
  clear mh
  refine wp_region_mix_swap [9, 11, 12] (InS mS) 9 11 12 9 11 (by kernel_rfl) (by kernel_rfl) (InS.mk ((mH.out _).2 (X0.out _ KC.out.drew))) ?_ ?_
  ·
    refine wpMix_seg 9 (by kernel_rfl) (by decide) ?_
    simp only [List.take_succ_cons, List.take_zero, List.drop_succ_cons, List.drop_zero, Nat.reduceSub]
    repeat (go_big_quiet_step (fail))
    refine wpQuiet_nil ?_
    refine wpMix_eff (by kernel_rfl) ?_
    go_wp2_with fail
    refine (clone_any _ nn _ bd _ (BODY.out.keeps KC.out.drew (fun _ _ _ _ _ h => h)) (by omega)).mono ?_
    rintro e w2 ⟨v2, rfl, o2, k2⟩
    obtain ⟨A2, cap2, rfl, bs2, -⟩ := o2.shape
    have K2 := Lib.hid (KC.out.drew.trans k2 (T := None) (fun _ h => h) (fun _ _ h => h))
    have R2 := Lib.hid (k2.blk BC.out.drew (fun h => h))
    have V2 := Lib.hid (o2.lower (B' := w.heap.size + 1) BC.out.lt)
    clear o2 k2 bs2
    go_wp2
    refine MixK.on (InS.mk ((mH.out _).2 (X0.out _ K2.out))) ?_
    refine wpMix_seg 1 (by kernel_rfl) (by decide) ?_
    simp only [List.take_succ_cons, List.take_zero, List.drop_succ_cons, List.drop_zero, Nat.reduceSub]
    repeat (go_big_quiet_step (fail))
    refine wpQuiet_nil ?_
    refine wpMix_eff (by kernel_rfl) ?_
    go_wp2
    refine MixK.on (InS.mk ((mH.out _).2 (X0.out _ (K2.out.alloc _)))) ?_
    refine wpMix_eff (by kernel_rfl) ?_
    go_wp2
    have K3 := Lib.hid (K2.out.alloc (.cells #[.int .i64 c0, .int .i64 s3, .slice A2 bd.length cap2] 58))
    have R3 := Lib.hid (R2.out.alloc (.cells #[.int .i64 c0, .int .i64 s3, .slice A2 bd.length cap2] 58))
    have N3 := Lib.hid (Blk.new w2 [.int .i64 c0, .int .i64 s3, .slice A2 bd.length cap2] 58)
    have V3 := Lib.hid (V2.out.alloc (.cells #[.int .i64 c0, .int .i64 s3, .slice A2 bd.length cap2] 58))
    clear K2 R2 V2
    obtain ⟨w3, hw3⟩ : ∃ x, w2.alloc (.cells #[.int .i64 c0, .int .i64 s3, .slice A2 bd.length cap2] 58) = x := ⟨_, rfl⟩
    obtain ⟨rb, hrb⟩ : ∃ x, w2.heap.size = x := ⟨_, rfl⟩
    rw [hw3] at K3 R3 N3 V3 ⊢
    rw [hrb] at N3 ⊢
    clear hw3 hrb
    refine MixK.on (InS.mk ((mH.out _).2 (X0.out _ K3.out))) ?_
    refine wpMix_nil ?_
    clear mk0 mn mH
    clear BC KC X0 BODY
    have hbl6 : bd.length ≤ 1000000 := by rw [HBL.out]; omega
    have PUT := Lib.hid (fun w h => sput_any c0 s3 A2 bd.length cap2 bd w h hbl6)
    have BD3 := Lib.hid (own_bs V3.out)
    have P3 := Lib.hid (PRE.out.keeps K3.out (fun _ _ _ _ _ h => h))
    have EQ := Lib.hid (fun A5 n5 c5 w h1 h2 => bequal_any A5 (some ⟨bl, off, none⟩) n5 sz c5 cap (putL c0 s3 bd) (zs.take sz) w h1 h2)
    obtain ⟨pb, hpb⟩ : ∃ b, decide (putL c0 s3 bd = zs.take sz) = b := ⟨_, rfl⟩
    rw [hpb] at EQ
    have HPB := Lib.hid hpb
    clear hpb PRE HB
    go_wp2
    obtain ⟨mS, mh⟩ : ∃ S : World → Prop, ∀ w', S w' ↔ (w'.cell? ⟨rb, 0, none⟩ = some (.int .i64 c0) ∧ w'.cell? ⟨rb, 1, none⟩ = some (.int .i64 s3) ∧ w'.cell? ⟨rb, 2, none⟩ = some (.slice A2 bd.length cap2)) := ⟨_, fun _ => Iff.rfl⟩
    have mk0 : ∀ x : Memb mS, x.at_.cell? ⟨rb, 0, none⟩ = some (.int .i64 c0) := fun x => ((mh _).1 x.is).1
    have mk1 : ∀ x : Memb mS, x.at_.cell? ⟨rb, 1, none⟩ = some (.int .i64 s3) := fun x => ((mh _).1 x.is).2.1
    have mk2 : ∀ x : Memb mS, x.at_.cell? ⟨rb, 2, none⟩ = some (.slice A2 bd.length cap2) := fun x => ((mh _).1 x.is).2.2
    have mn : Nonempty (Memb mS) := ⟨⟨(w3).drew, (mh _).2 ⟨N3.out.cellD 0 _ rfl, N3.out.cellD 1 _ rfl, N3.out.cellD 2 _ rfl⟩⟩⟩
    have mH := Lib.hid mh
    clear mh
    refine wp_region_mix [1, 5] (InS mS) (by kernel_rfl) (by kernel_rfl) (InS.mk ((mH.out _).2 ⟨N3.out.cellD 0 _ rfl, N3.out.cellD 1 _ rfl, N3.out.cellD 2 _ rfl⟩)) ?_
    refine wpMix_seg 1 (by kernel_rfl) (by decide) ?_
    simp only [List.take_succ_cons, List.take_zero, List.drop_succ_cons, List.drop_zero]
    repeat (go_big_quiet_step (fail))
    refine wpQuiet_nil ?_
    refine wpMix_eff (by kernel_rfl) ?_
    go_wp2_with fail
    refine (PUT.out _ BD3.out.drew).mono ?_
    rintro e w5 ⟨v5, rfl, o5, k5⟩
    obtain ⟨A5, cap5, rfl, bs5, -⟩ := o5.shape
    have K5 := Lib.hid (K3.out.drew.trans k5 (T := None) (fun _ h => h) (fun _ _ h => h))
    have R5 := Lib.hid (k5.blk R3.out.drew (fun h => h))
    have N5 := Lib.hid (k5.blk N3.out.drew (fun h => h))
    have V5 := Lib.hid (V3.out.drew.keeps k5 (fun _ _ h => h))
    have P5 := Lib.hid (P3.out.drew.keeps k5 (fun _ _ _ _ _ h => h))
    have BS5 := Lib.hid bs5
    clear o5 k5 bs5 K3 R3 V3 P3 PUT BD3
    go_wp2
    refine MixK.on (InS.mk ((mH.out _).2 (⟨N5.out.cellD 0 _ rfl, N5.out.cellD 1 _ rfl, N5.out.cellD 2 _ rfl⟩))) ?_
    refine wpMix_seg 3 (by kernel_rfl) (by decide) ?_
    simp only [List.take_succ_cons, List.take_zero, List.drop_succ_cons, List.drop_zero]
    repeat (go_big_quiet_step (fail))
    refine wpQuiet_nil ?_
    refine wpMix_eff (by kernel_rfl) ?_
    go_wp2_with fail
    refine (EQ.out _ _ _ w5 BS5.out P5.out).mono ?_
    rintro e w' ⟨rfl, rfl⟩
    go_wp2
    refine MixK.on (InS.mk ((mH.out _).2 (⟨N5.out.cellD 0 _ rfl, N5.out.cellD 1 _ rfl, N5.out.cellD 2 _ rfl⟩))) ?_
    refine wpMix_seg 1 (by kernel_rfl) (by decide) ?_
    simp only [List.take_succ_cons, List.take_zero, List.drop_succ_cons, List.drop_zero]
    repeat (go_big_quiet_step (fail))
    refine wpQuiet_nil ?_
    refine wpMix_nil ?_
    clear mk0 mk1 mk2 mn mH
    clear EQ BS5 P5
    cases pb with
    | false =>
      have GN : Hid (getL zs = none) := by
        show getL zs = none
        rw [GL2.out]; exact if_neg (of_decide_eq_false HPB.out)
      clear GL2 V5 N5 N3
      have qq0 := Blk.cellD (R5.out) 0 _ rfl
      have qq1 := Blk.cellD (R5.out) 1 _ rfl
      have qq2 := Blk.cellD (R5.out) 2 _ rfl
      have qf0 := Blk.frozen (R5.out) 0
      have qf1 := Blk.frozen (R5.out) 1
      have qf2 := Blk.frozen (R5.out) 2
      go_wp2
      refine bodyPost_ret (get_res _ ((((Blk.set (R5.out) 0 _)).set 1 _).set 2 _) rfl rfl rfl) rfl ?_
      exact ⟨0, 0, _, [], 0, false, rfl, Own.nil _ _, ((Keeps.setCell (K5.out) _ _ (fun h => absurd h (Nat.lt_irrefl _))).setCell _ _ (fun h => absurd h (Nat.lt_irrefl _))).setCell _ _ (fun h => absurd h (Nat.lt_irrefl _)), .inr ⟨rfl, GN.out, rfl, rfl, rfl, rfl⟩⟩
    | true =>
      have GS : Hid (getL zs = some ((c0 : Int), (s3 : Int), bd, (sz : Int))) := by
        show getL zs = _
        rw [GL2.out]; exact if_pos (of_decide_eq_true HPB.out)
      have rq0 := N5.out.cellD 0 _ rfl
      have rq1 := N5.out.cellD 1 _ rfl
      have rq2 := N5.out.cellD 2 _ rfl
      have qq0 := R5.out.cellD 0 _ rfl
      have qq1 := R5.out.cellD 1 _ rfl
      have qq2 := R5.out.cellD 2 _ rfl
      have qf0 := R5.out.frozen 0
      have qf1 := R5.out.frozen 1
      have qf2 := R5.out.frozen 2
      go_wp2
      refine bodyPost_ret (get_res _ ((((Blk.set (R5.out) 0 _)).set 1 _).set 2 _) rfl rfl rfl) rfl ?_
      exact ⟨c0, s3, _, bd, sz, true, rfl, ((V5.out.keeps (S := fun i => i = w.heap.size) ((((Keeps.refl (fun i => i = w.heap.size) w5).put 0 _).put 1 _).put 2 _) (fun b e h => V5.out.notBelow (i := b) (by omega) e)).lower (Nat.le_succ _)), ((K5.out.setCell _ _ (fun h => absurd h (Nat.lt_irrefl _))).setCell _ _ (fun h => absurd h (Nat.lt_irrefl _))).setCell _ _ (fun h => absurd h (Nat.lt_irrefl _)), .inl ⟨rfl, GS.out⟩⟩
  ·
    try dsimp only
    try simp only [List.take_succ_cons, List.take_zero, List.drop_succ_cons, List.drop_zero, Nat.reduceSub]
    refine wpMix_seg 9 (by kernel_rfl) (by decide) ?_
    simp only [List.take_succ_cons, List.take_zero, List.drop_succ_cons, List.drop_zero, Nat.reduceSub]
    repeat (go_big_quiet_step (fail))
    refine wpQuiet_nil ?_
    refine wpMix_nil ?_
    try dsimp only
    try simp only [List.take_succ_cons, List.take_zero, List.drop_succ_cons, List.drop_zero, Nat.reduceSub]
    refine wpMix_eff (by kernel_rfl) ?_
    go_wp2
    refine MixK.on (InS.mk ((mH.out _).2 (X0.out _ ((KC.out.alloc _).drew)))) ?_
    refine wpMix_nil ?_
    try dsimp only
    try simp only [List.take_succ_cons, List.take_zero, List.drop_succ_cons, List.drop_zero, Nat.reduceSub]
    refine wpMix_eff (by kernel_rfl) ?_
    go_wp2_with fail
    refine (clone_any _ nn _ bd _ (BODY.out.keeps (KC.out.alloc _).drew (fun _ _ _ _ _ h => h)) (by omega)).mono ?_
    rintro e w2 ⟨v2, rfl, o2, k2⟩
    obtain ⟨A2, cap2, rfl, bs2, -⟩ := o2.shape
    have K2 := Lib.hid ((KC.out.alloc (.cells #[.int .i64 0, .int .i64 0, .slice none 0 0] 58)).drew.trans k2 (T := None) (fun _ h => h) (fun _ _ h => h))
    have R2 := Lib.hid (k2.blk (BC.out.alloc (.cells #[.int .i64 0, .int .i64 0, .slice none 0 0] 58)).drew (fun h => h))
    have N2 := k2.blk (Blk.new wc [.int .i64 0, .int .i64 0, .slice none 0 0] 58).drew (fun h => h)
    have V2 := Lib.hid (o2.lower (B' := w.heap.size + 1) (Nat.le_trans BC.out.lt ((Keeps.refl None wc).alloc (.cells #[.int .i64 0, .int .i64 0, .slice none 0 0] 58)).size))
    have VN := Lib.hid (fun (b : Nat) (e : (Value.slice A2 bd.length cap2).ownBlock = some b) (h : b = wc.heap.size) => Own.notBelow o2 (i := b) (by subst h; simp) e)
    have nq0 := N2.cellD 0 _ rfl
    have nq1 := N2.cellD 1 _ rfl
    have nq2 := N2.cellD 2 _ rfl
    have nf0 := N2.frozen 0
    have nf1 := N2.frozen 1
    have nf2 := N2.frozen 2
    have HN2 := Lib.hid N2
    clear o2 k2 bs2 N2
    go_wp2
    refine MixK.on (InS.mk ((mH.out _).2 (X0.out _ K2.out))) ?_
    refine wpMix_seg 1 (by kernel_rfl) (by decide) ?_
    simp only [List.take_succ_cons, List.take_zero, List.drop_succ_cons, List.drop_zero, Nat.reduceSub]
    repeat (go_big_quiet_step (fail))
    refine wpQuiet_nil ?_
    refine wpMix_nil ?_
    try dsimp only
    try simp only [List.take_succ_cons, List.take_zero, List.drop_succ_cons, List.drop_zero, Nat.reduceSub]
    refine wpMix_eff (by kernel_rfl) ?_
    go_wp2
    have K3 := Lib.hid (((K2.out.setCell ⟨wc.heap.size, 0, none⟩ (.int .i64 c0) (fun h => absurd h (Nat.not_lt.2 KC.out.size))).setCell ⟨wc.heap.size, 1, none⟩ (.int .i64 s3) (fun h => absurd h (Nat.not_lt.2 KC.out.size))).setCell ⟨wc.heap.size, 2, none⟩ (.slice A2 bd.length cap2) (fun h => absurd h (Nat.not_lt.2 KC.out.size)))
    have R3 := Lib.hid (((R2.out.setOther ⟨wc.heap.size, 0, none⟩ (.int .i64 c0) (Nat.ne_of_lt BC.out.lt)).setOther ⟨wc.heap.size, 1, none⟩ (.int .i64 s3) (Nat.ne_of_lt BC.out.lt)).setOther ⟨wc.heap.size, 2, none⟩ (.slice A2 bd.length cap2) (Nat.ne_of_lt BC.out.lt))
    have N3 := Lib.hid (((HN2.out.set 0 (.int .i64 c0)).set 1 (.int .i64 s3)).set 2 (.slice A2 bd.length cap2))
    have V3 := Lib.hid (V2.out.keeps (S := fun i => i = wc.heap.size) ((((Keeps.refl (fun i => i = wc.heap.size) w2).put 0 (.int .i64 c0)).put 1 (.int .i64 s3)).put 2 (.slice A2 bd.length cap2)) (fun b e h => VN.out b e h))
    clear K2 R2 V2 HN2 nq0 nq1 nq2 nf0 nf1 nf2 VN
    obtain ⟨w3, hw3⟩ : ∃ x, ((w2.setCell ⟨wc.heap.size, 0, none⟩ (.int .i64 c0)).setCell ⟨wc.heap.size, 1, none⟩ (.int .i64 s3)).setCell ⟨wc.heap.size, 2, none⟩ (.slice A2 bd.length cap2) = x := ⟨_, rfl⟩
    obtain ⟨rb, hrb⟩ : ∃ x, wc.heap.size = x := ⟨_, rfl⟩
    rw [hw3] at K3 R3 N3 V3 ⊢
    rw [hrb] at N3 ⊢
    clear hw3 hrb
    refine MixK.on (InS.mk ((mH.out _).2 (X0.out _ K3.out))) ?_
    refine wpMix_nil ?_
    clear mk0 mn mH
    clear BC KC X0 BODY
    have hbl6 : bd.length ≤ 1000000 := by rw [HBL.out]; omega
    have PUT := Lib.hid (fun w h => sput_any c0 s3 A2 bd.length cap2 bd w h hbl6)
    have BD3 := Lib.hid (own_bs V3.out)
    have P3 := Lib.hid (PRE.out.keeps K3.out (fun _ _ _ _ _ h => h))
    have EQ := Lib.hid (fun A5 n5 c5 w h1 h2 => bequal_any A5 (some ⟨bl, off, none⟩) n5 sz c5 cap (putL c0 s3 bd) (zs.take sz) w h1 h2)
    obtain ⟨pb, hpb⟩ : ∃ b, decide (putL c0 s3 bd = zs.take sz) = b := ⟨_, rfl⟩
    rw [hpb] at EQ
    have HPB := Lib.hid hpb
    clear hpb PRE HB
    go_wp2
    obtain ⟨mS, mh⟩ : ∃ S : World → Prop, ∀ w', S w' ↔ (w'.cell? ⟨rb, 0, none⟩ = some (.int .i64 c0) ∧ w'.cell? ⟨rb, 1, none⟩ = some (.int .i64 s3) ∧ w'.cell? ⟨rb, 2, none⟩ = some (.slice A2 bd.length cap2)) := ⟨_, fun _ => Iff.rfl⟩
    have mk0 : ∀ x : Memb mS, x.at_.cell? ⟨rb, 0, none⟩ = some (.int .i64 c0) := fun x => ((mh _).1 x.is).1
    have mk1 : ∀ x : Memb mS, x.at_.cell? ⟨rb, 1, none⟩ = some (.int .i64 s3) := fun x => ((mh _).1 x.is).2.1
    have mk2 : ∀ x : Memb mS, x.at_.cell? ⟨rb, 2, none⟩ = some (.slice A2 bd.length cap2) := fun x => ((mh _).1 x.is).2.2
    have mn : Nonempty (Memb mS) := ⟨⟨(w3).drew, (mh _).2 ⟨N3.out.cellD 0 _ rfl, N3.out.cellD 1 _ rfl, N3.out.cellD 2 _ rfl⟩⟩⟩
    have mH := Lib.hid mh
    clear mh
    refine wp_region_mix [1, 5] (InS mS) (by kernel_rfl) (by kernel_rfl) (InS.mk ((mH.out _).2 ⟨N3.out.cellD 0 _ rfl, N3.out.cellD 1 _ rfl, N3.out.cellD 2 _ rfl⟩)) ?_
    refine wpMix_seg 1 (by kernel_rfl) (by decide) ?_
    simp only [List.take_succ_cons, List.take_zero, List.drop_succ_cons, List.drop_zero]
    repeat (go_big_quiet_step (fail))
    refine wpQuiet_nil ?_
    refine wpMix_eff (by kernel_rfl) ?_
    go_wp2_with fail
    refine (PUT.out _ BD3.out.drew).mono ?_
    rintro e w5 ⟨v5, rfl, o5, k5⟩
    obtain ⟨A5, cap5, rfl, bs5, -⟩ := o5.shape
    have K5 := Lib.hid (K3.out.drew.trans k5 (T := None) (fun _ h => h) (fun _ _ h => h))
    have R5 := Lib.hid (k5.blk R3.out.drew (fun h => h))
    have N5 := Lib.hid (k5.blk N3.out.drew (fun h => h))
    have V5 := Lib.hid (V3.out.drew.keeps k5 (fun _ _ h => h))
    have P5 := Lib.hid (P3.out.drew.keeps k5 (fun _ _ _ _ _ h => h))
    have BS5 := Lib.hid bs5
    clear o5 k5 bs5 K3 R3 V3 P3 PUT BD3
    go_wp2
    refine MixK.on (InS.mk ((mH.out _).2 (⟨N5.out.cellD 0 _ rfl, N5.out.cellD 1 _ rfl, N5.out.cellD 2 _ rfl⟩))) ?_
    refine wpMix_seg 3 (by kernel_rfl) (by decide) ?_
    simp only [List.take_succ_cons, List.take_zero, List.drop_succ_cons, List.drop_zero]
    repeat (go_big_quiet_step (fail))
    refine wpQuiet_nil ?_
    refine wpMix_eff (by kernel_rfl) ?_
    go_wp2_with fail
    refine (EQ.out _ _ _ w5 BS5.out P5.out).mono ?_
    rintro e w' ⟨rfl, rfl⟩
    go_wp2
    refine MixK.on (InS.mk ((mH.out _).2 (⟨N5.out.cellD 0 _ rfl, N5.out.cellD 1 _ rfl, N5.out.cellD 2 _ rfl⟩))) ?_
    refine wpMix_seg 1 (by kernel_rfl) (by decide) ?_
    simp only [List.take_succ_cons, List.take_zero, List.drop_succ_cons, List.drop_zero]
    repeat (go_big_quiet_step (fail))
    refine wpQuiet_nil ?_
    refine wpMix_nil ?_
    clear mk0 mk1 mk2 mn mH
    clear EQ BS5 P5
    cases pb with
    | false =>
      have GN : Hid (getL zs = none) := by
        show getL zs = none
        rw [GL2.out]; exact if_neg (of_decide_eq_false HPB.out)
      clear GL2 V5 N5 N3
      have qq0 := Blk.cellD (R5.out) 0 _ rfl
      have qq1 := Blk.cellD (R5.out) 1 _ rfl
      have qq2 := Blk.cellD (R5.out) 2 _ rfl
      have qf0 := Blk.frozen (R5.out) 0
      have qf1 := Blk.frozen (R5.out) 1
      have qf2 := Blk.frozen (R5.out) 2
      go_wp2
      refine bodyPost_ret (get_res _ ((((Blk.set (R5.out) 0 _)).set 1 _).set 2 _) rfl rfl rfl) rfl ?_
      exact ⟨0, 0, _, [], 0, false, rfl, Own.nil _ _, ((Keeps.setCell (K5.out) _ _ (fun h => absurd h (Nat.lt_irrefl _))).setCell _ _ (fun h => absurd h (Nat.lt_irrefl _))).setCell _ _ (fun h => absurd h (Nat.lt_irrefl _)), .inr ⟨rfl, GN.out, rfl, rfl, rfl, rfl⟩⟩
    | true =>
      have GS : Hid (getL zs = some ((c0 : Int), (s3 : Int), bd, (sz : Int))) := by
        show getL zs = _
        rw [GL2.out]; exact if_pos (of_decide_eq_true HPB.out)
      have rq0 := N5.out.cellD 0 _ rfl
      have rq1 := N5.out.cellD 1 _ rfl
      have rq2 := N5.out.cellD 2 _ rfl
      have qq0 := R5.out.cellD 0 _ rfl
      have qq1 := R5.out.cellD 1 _ rfl
      have qq2 := R5.out.cellD 2 _ rfl
      have qf0 := R5.out.frozen 0
      have qf1 := R5.out.frozen 1
      have qf2 := R5.out.frozen 2
      go_wp2
      refine bodyPost_ret (get_res _ ((((Blk.set (R5.out) 0 _)).set 1 _).set 2 _) rfl rfl rfl) rfl ?_
      exact ⟨c0, s3, _, bd, sz, true, rfl, ((V5.out.keeps (S := fun i => i = w.heap.size) ((((Keeps.refl (fun i => i = w.heap.size) w5).put 0 _).put 1 _).put 2 _) (fun b e h => V5.out.notBelow (i := b) (by omega) e)).lower (Nat.le_succ _)), ((K5.out.setCell _ _ (fun h => absurd h (Nat.lt_irrefl _))).setCell _ _ (fun h => absurd h (Nat.lt_irrefl _))).setCell _ _ (fun h => absurd h (Nat.lt_irrefl _)), .inl ⟨rfl, GS.out⟩⟩
end Go.Proofs.Ytfldgaiiniknpaa
/- The example of chapter 5; the reference's Fall and Sum. -/
namespace Go.Proofs.Ytfldgaiiniknpaa
open Go.RowKit

theorem al_len : (putL 3 7 [5]).length = 24 := by decide +kernel
theorem al_get : getL (putL 3 7 [5]) = some (3, 7, [5], 24) := by decide +kernel

end Go.Proofs.Ytfldgaiiniknpaa
/- What the words of the seat's head say (the kernel is spared the long string), and the program's facts that every claim needs. -/
namespace Go.Proofs.Ytfldgaiiniknpaa
open Go.RowKit
def initWords : List (List Char) := [['c', 'u', 't'],
  ['a', 't'],
  ['b', 'o', 'o', 't', 'j', 'a', 'c', 'k', '/', 'b', 'o', 'o', 't', 'j', 'a', 'c', 'k', 'l', 'a', 'w', '2', '3', '.', 'L', 'e', 'd', 'g', 'e', 'r', 'T', 'e', 'l', 'l', 's'],
  ['b', 'o', 'o', 't', 'j', 'a', 'c', 'k', '/', 'b', 'o', 'o', 't', 'j', 'a', 'c', 'k', 'l', 'a', 'w', '2', '3', '.', 'L', 'e', 'd', 'g', 'e', 'r', 'F', 'o', 'l', 'd', 's'],
  ['b', 'o', 'o', 't', 'j', 'a', 'c', 'k', '/', 'b', 'o', 'o', 't', 'j', 'a', 'c', 'k', 'l', 'a', 'w', '2', '3', '.', 'L', 'e', 'd', 'g', 'e', 'r', 'B', 'a', 'c', 'k'],
  ['b', 'o', 'o', 't', 'j', 'a', 'c', 'k', '/', 'b', 'o', 'o', 't', 'j', 'a', 'c', 'k', 'l', 'a', 'w', '2', '3', '.', 'L', 'e', 'd', 'g', 'e', 'r', 'C', 'u', 't', 's']]
def initChars : List Char := ['h', 'a', 'r', 'n', 'e', 's', 's', ' ', '5', 'd', 'b', '5', 'd', '6', 'a', '7', '3', 'd', 'c', '8', '0', '0', '0', '3', 'a', 'b', 'f', '3', 'c', '7', '7', '5', '4', 'b', '9', '3', '9', '6', '4', '5', '4', '9', 'c', '7', '0', '4', '6', 'c', '9', '0', 'c', 'b', '3', 'b', '5', '7', '9', 'f', '3', '8', '4', 'a', '4', '6', 'd', 'a', '8', 'a', 'c', 'd', '4', '0', ' ', 'c', 'u', 't', ' ', 'a', 't', ' ', 'b', 'o', 'o', 't', 'j', 'a', 'c', 'k', '/', 'b', 'o', 'o', 't', 'j', 'a', 'c', 'k', 'l', 'a', 'w', '2', '3', '.', 'L', 'e', 'd', 'g', 'e', 'r', 'T', 'e', 'l', 'l', 's', ' ', 'b', 'o', 'o', 't', 'j', 'a', 'c', 'k', '/', 'b', 'o', 'o', 't', 'j', 'a', 'c', 'k', 'l', 'a', 'w', '2', '3', '.', 'L', 'e', 'd', 'g', 'e', 'r', 'F', 'o', 'l', 'd', 's', ' ', 'b', 'o', 'o', 't', 'j', 'a', 'c', 'k', '/', 'b', 'o', 'o', 't', 'j', 'a', 'c', 'k', 'l', 'a', 'w', '2', '3', '.', 'L', 'e', 'd', 'g', 'e', 'r', 'B', 'a', 'c', 'k', ' ', 'b', 'o', 'o', 't', 'j', 'a', 'c', 'k', '/', 'b', 'o', 'o', 't', 'j', 'a', 'c', 'k', 'l', 'a', 'w', '2', '3', '.', 'L', 'e', 'd', 'g', 'e', 'r', 'C', 'u', 't', 's']
theorem init_of : Try.prog.initOrder = String.ofList initChars := by kernel_rfl
theorem init_split : behindMainWord (wordsSigns initChars) = initWords := by kernel_rfl
theorem init_words : behindMainWord (wordsSigns Try.checked.prog.initOrder.toList) = initWords := by
  have h : Try.checked.prog.initOrder = String.ofList initChars := init_of
  rw [h, String.toList_ofList]; exact init_split
theorem cut_chars : "cut".toList = ['c', 'u', 't'] := by rw [show ("cut" : String) = String.ofList ['c', 'u', 't'] from rfl, String.toList_ofList]
theorem strip_cut (rest : List (List Char)) : stripLifts liftWords (['c', 'u', 't'] :: rest) = ([], ['c', 'u', 't'] :: rest) := by kernel_rfl
theorem mayEnter_cut (P : Program) (rest : List (List Char)) (h : behindMainWord (wordsSigns P.initOrder.toList) = ['c', 'u', 't'] :: rest) (hl : P.laysLater = false) (hr : P.bearsReflect = false) (hd : P.doorRows = []) : P.mayEnter = true := by
  unfold Program.mayEnter
  rw [h]
  simp [strip_cut, cut_chars, hl, hr, Program.doorFits, hd]
theorem headLifts_cut (P : Program) (rest : List (List Char)) (h : behindMainWord (wordsSigns P.initOrder.toList) = ['c', 'u', 't'] :: rest) : P.headLifts = [] := by
  unfold Program.headLifts
  rw [h]
  simp [strip_cut, cut_chars]
theorem liftsFinal_cut (P : Program) (rest : List (List Char)) (h : behindMainWord (wordsSigns P.initOrder.toList) = ['c', 'u', 't'] :: rest) : P.liftsFinal = false := by
  unfold Program.liftsFinal
  rw [headLifts_cut P rest h, h]
  have : ('c' :: 'u' :: ['t'] == "carried".toList) = false := by decide
  simp [this]
theorem make_cut (P : Program) (rest : List (List Char)) (h : behindMainWord (wordsSigns P.initOrder.toList) = ['c', 'u', 't'] :: rest) : P.make = some .cut := by
  unfold Program.make
  rw [h]
  simp [cut_chars]
theorem closed_mayEnter : Try.checked.prog.mayEnter = true := mayEnter_cut _ _ init_words (by kernel_rfl) (by kernel_rfl) (by kernel_rfl)
theorem closed_lifts : Try.checked.prog.liftsFinal = false := liftsFinal_cut _ _ init_words
theorem closed_make : Try.checked.prog.make = some .cut := make_cut _ _ init_words
theorem closed_laid : laidOutB Try.checked.prog = true := by kernel_rfl
theorem closed_maps : mapsRowed Try.checked.prog = true := by kernel_rfl
theorem closed_heard : Try.checked.prog.stopsHeard = true := by kernel_rfl
theorem closed_plain : Try.checked.prog.plainKeys = true := by kernel_rfl
end Go.Proofs.Ytfldgaiiniknpaa
/- Records: an argument opened; the plain law of Put and Get; SameRecord. -/
namespace Go.Proofs.Ytfldgaiiniknpaa
open Go.RowKit Go.ChangeShapes Go.WideShapes Go.ChangeAt

set_option maxRecDepth 100000
section
variable {H : Type} {enc : TypeId × Value → H} {w : World} {base : Nat} {spare : Nat → Bool} {held : Bool}
theorem open_record {v : Value} {d : DataW H} {p : List MemPlace} {base' : Nat} (hok : Value.okWide Try.prog w .any base' 58 v) (h : DataW.Trod enc Try.prog w base spare held 58 v d p) :
    ∃ (k s : Int) (A : Option Addr) (n cap : Nat) (zs : List Int), v = .agg #[.int .i64 k, .int .i64 s, .slice A n cap] ∧ Bs w A n cap zs := by
  obtain ⟨cs, rfl, hsz⟩ := okWide_struct Try.underlying58 hok
  obtain ⟨fuel, hf⟩ := h
  obtain ⟨y0, y1, y2, m, _, hl, h0, h1, h2⟩ := Go.Deep.trod_struct3 Try.underlying58 hf
  have hl3 : cs.size = 3 := by rw [hsz]; kernel_rfl
  obtain ⟨a, b, c, rfl⟩ : ∃ a b c, cs = #[a, b, c] := by
    obtain ⟨l⟩ := cs
    match l, hl3 with
    | [a, b, c], _ => exact ⟨a, b, c, rfl⟩
  have q0 : DataW.trod enc Try.prog w base spare held m 3 [a] = some y0 := h0
  have q1 : DataW.trod enc Try.prog w base spare held m 3 [b] = some y1 := h1
  have q2 : DataW.trod enc Try.prog w base spare held m 27 [c] = some y2 := h2
  obtain ⟨k, ek, _⟩ := DataW.trod_int Try.underlying3 q0
  obtain ⟨s, es, _⟩ := DataW.trod_int Try.underlying3 q1
  cases ek
  cases es
  have key : ∃ A n cap, c = .slice A n cap := by
    rcases open_ints Try.underlying27 Try.underlying5 (by kernel_rfl) q2 with ⟨hcs, _⟩ | ⟨x, l, c', zs, hcs, _⟩
    · cases hcs; exact ⟨_, _, _, rfl⟩
    · cases hcs; exact ⟨_, _, _, rfl⟩
  obtain ⟨A, n, cap, rfl⟩ := key
  obtain ⟨zs, hz⟩ := open_bs (d := y2.1) (p := y2.2) ⟨m, q2⟩
  exact ⟨k, s, A, n, cap, zs, rfl, hz⟩
end

/-! ### The plain law -/
theorem putL_cons (k s : Int) (zs more : List Int) (hf : fitsR k s zs.length) : putL k s zs ++ more = k :: 0 :: ((zs.length : Int) % 256) :: ((zs.length : Int) / 256) :: ((s.toNat : Int) % 256) :: ((s.toNat : Int) / 256 % 256) :: ((s.toNat : Int) / 65536 % 256) :: ((s.toNat : Int) / 16777216) :: (zs ++ (List.replicate (padK zs.length) 0 ++ (tailL (frontL k s zs) ++ more))) := by
  unfold putL
  rw [if_pos hf]
  simp [frontL, headL, le4]
theorem putL_len (k s : Int) (zs : List Int) (hf : fitsR k s zs.length) : ((putL k s zs).length : Int) = sizeZ zs.length := by
  have h5 := hf.2.2.2.2
  have := putL_cons k s zs [] hf
  rw [List.append_nil] at this
  rw [this]
  have e : sizeZ zs.length = 16 + ((zs.length : Int) + 7) / 8 * 8 := if_neg (by omega)
  rw [e]
  have hp : padK zs.length = (8 - zs.length % 8) % 8 := rfl
  simp only [List.length_cons, List.length_append, List.length_replicate, tailL, le4, List.length_nil]
  omega
/-- A record is read as it was put. -/
theorem get_put (k s : Int) (zs more : List Int) (hf : fitsR k s zs.length) : getL (putL k s zs ++ more) = some (k, s, zs, sizeZ zs.length) := by
  have hlen := putL_len k s zs hf
  have hc := putL_cons k s zs more hf
  obtain ⟨f1, f2, f3, f4, f5⟩ := hf
  have hs : sizeZ zs.length = 16 + ((zs.length : Int) + 7) / 8 * 8 := if_neg (by omega)
  have hn : ((zs.length : Int) % 256) + ((zs.length : Int) / 256) * 256 = zs.length := by omega
  have hq : ((s.toNat : Int) % 256) + ((s.toNat : Int) / 256 % 256) * 256 + ((s.toNat : Int) / 65536 % 256) * 65536 + ((s.toNat : Int) / 16777216) * 16777216 = s := by omega
  have hpl : (putL k s zs ++ more).length = (putL k s zs).length + more.length := List.length_append
  unfold getL
  rw [if_neg (by rw [hpl]; omega)]
  have g0 : (putL k s zs ++ more).getD 0 0 = k := by rw [hc]; rfl
  have g2 : (putL k s zs ++ more).getD 2 0 = (zs.length : Int) % 256 := by rw [hc]; rfl
  have g3 : (putL k s zs ++ more).getD 3 0 = (zs.length : Int) / 256 := by rw [hc]; rfl
  have g4 : (putL k s zs ++ more).getD 4 0 = (s.toNat : Int) % 256 := by rw [hc]; rfl
  have g5 : (putL k s zs ++ more).getD 5 0 = (s.toNat : Int) / 256 % 256 := by rw [hc]; rfl
  have g6 : (putL k s zs ++ more).getD 6 0 = (s.toNat : Int) / 65536 % 256 := by rw [hc]; rfl
  have g7 : (putL k s zs ++ more).getD 7 0 = (s.toNat : Int) / 16777216 := by rw [hc]; rfl
  have g8 : ((putL k s zs ++ more).drop 8).take zs.length = zs := by rw [hc]; simp
  simp only [g0, g2, g3, g4, g5, g6, g7, hn, hq, Int.toNat_natCast, g8]
  rw [if_neg (by rw [hpl]; omega), if_pos]
  rw [← hlen, Int.toNat_natCast, List.take_left']
  rfl
/-- No proper front of a record is one. -/
theorem get_front (k s : Int) (zs : List Int) (hf : fitsR k s zs.length) (c : Nat) (hc : c < (putL k s zs).length) : getL ((putL k s zs).take c) = none := by
  have hlen := putL_len k s zs hf
  have hco := putL_cons k s zs [] hf
  rw [List.append_nil] at hco
  have htl : ((putL k s zs).take c).length = c := by rw [List.length_take]; omega
  unfold getL
  by_cases h16 : c < 16
  · rw [if_pos (by rw [htl]; exact h16)]
  · rw [if_neg (by rw [htl]; exact h16)]
    have g2 : ((putL k s zs).take c).getD 2 0 = (zs.length : Int) % 256 := by
      have : ((putL k s zs).take c).getD 2 0 = (putL k s zs).getD 2 0 := by simp [List.getD, List.getElem?_take, show 2 < c by omega]
      rw [this, hco]; rfl
    have g3 : ((putL k s zs).take c).getD 3 0 = (zs.length : Int) / 256 := by
      have : ((putL k s zs).take c).getD 3 0 = (putL k s zs).getD 3 0 := by simp [List.getD, List.getElem?_take, show 3 < c by omega]
      rw [this, hco]; rfl
    have hn : ((zs.length : Int) % 256) + ((zs.length : Int) / 256) * 256 = zs.length := by omega
    simp only [g2, g3, hn, htl]
    rw [if_pos (.inr (by omega))]
end Go.Proofs.Ytfldgaiiniknpaa
/- The reference's Low, Number, Size: their walks. -/
namespace Go.Proofs.Ytfldgaiiniknpaa
open Go.RowKit

/-- So many bytes of a number, the lowest first. -/
def lowL : Nat → Nat → List Int
  | 0, _ => []
  | k + 1, n => ((n % 256 : Nat) : Int) :: lowL k (n / 256)
theorem lowL_len : ∀ (k n : Nat), (lowL k n).length = k
  | 0, _ => rfl
  | k + 1, n => by simp [lowL, lowL_len k]
theorem lowL_byte : ∀ (k n : Nat), ∀ z ∈ lowL k n, 0 ≤ z ∧ z ≤ 255
  | 0, _, z, h => by simp [lowL] at h
  | k + 1, n, z, h => by
    simp only [lowL, List.mem_cons] at h
    rcases h with rfl | h
    · omega
    · exact lowL_byte k _ z h
theorem lowL_snoc : ∀ (k n : Nat), lowL (k + 1) n = lowL k n ++ [((n / 256 ^ k % 256 : Nat) : Int)]
  | 0, n => by simp [lowL]
  | k + 1, n => by
    have h := lowL_snoc k (n / 256)
    rw [lowL, h, lowL]
    rw [Nat.div_div_eq_div_mul, show 256 * 256 ^ k = 256 ^ (k + 1) by rw [Nat.pow_succ, Nat.mul_comm]]
    rfl
/-- The row while it is filled. -/
def lowTo (m k n : Nat) : List Int := lowL k n ++ List.replicate (m - k) 0
theorem lowTo_len (m k n : Nat) (h : k ≤ m) : (lowTo m k n).length = m := by
  unfold lowTo; rw [List.length_append, lowL_len, List.length_replicate]; omega
theorem lowTo_set (m k n : Nat) (h : k < m) : (lowTo m k n).set k ((n / 256 ^ k % 256 : Nat) : Int) = lowTo m (k + 1) n := by
  unfold lowTo
  obtain ⟨q, hq⟩ : ∃ q, m - k = q + 1 := ⟨m - k - 1, by omega⟩
  rw [show m - (k + 1) = q by omega, hq, lowL_snoc, List.set_append_right k _ (by rw [lowL_len]; exact Nat.le_refl _), lowL_len, Nat.sub_self, List.replicate_succ]
  simp
theorem lowL_two (n : Nat) (h : n < 65536) : lowL 2 n = [(n : Int) % 256, (n : Int) / 256] := by
  simp only [lowL]
  congr 2
  omega
theorem lowL_four (n : Nat) (h : n < 4294967296) : lowL 4 n = le4 n := by
  simp only [lowL, le4, List.cons.injEq, and_true]
  refine ⟨?_, ?_, ?_, ?_⟩ <;> omega
/-- Back. -/
def numN : List Int → Nat
  | [] => 0
  | z :: zs => z.toNat + 256 * numN zs
theorem numN_lt : ∀ (zs : List Int), (∀ z ∈ zs, 0 ≤ z ∧ z ≤ 255) → numN zs < 256 ^ zs.length
  | [], _ => by simp [numN]
  | z :: zs, h => by
    have h1 := h z List.mem_cons_self
    have h2 := numN_lt zs (fun y hy => h y (List.mem_cons_of_mem _ hy))
    rw [numN, List.length_cons, Nat.pow_succ]
    omega
theorem numN_low : ∀ (k n : Nat), n < 256 ^ k → numN (lowL k n) = n
  | 0, n, h => by simp at h; subst h; rfl
  | k + 1, n, h => by
    rw [lowL, numN, numN_low k (n / 256) (by rw [Nat.pow_succ] at h; omega)]
    omega

set_option maxRecDepth 100000 in
set_option maxHeartbeats 800000 in
theorem rslow_any (n m : Nat) (w : World) (hn : n < 18446744073709551616) (hm : m ≤ 64) : Calls Try.prog 39 #[.int .u64 (n : Int), .int .i64 (m : Int)] w (Cloned w (lowL m n)) := by
  have hmk := fun w => run_make_blk (P := Try.prog) 27 5 (.int .u8 0) 1 Try.underlying27 Try.info5 rfl .i64 .i64 (m : Int) (m : Int) m rfl rfl (by omega) (by omega) w
  go_enter Try.func39, Try.ntmps39
  go_wp2
  go_loopw [0, 6] (fun nv iv wr => ∃ k x : Nat, k ≤ m ∧ iv = .int .i64 (k : Int) ∧ nv = .int .u64 (x : Int) ∧ x < 18446744073709551616 ∧ Hid (x = n / 256 ^ k) ∧ Blk wr w.heap.size ((lowTo m k n).map (.int .u8)) 5 ∧ Keeps None w wr) (fun _ iv _ => m - (intOf iv).toNat)
  case atStart =>
    refine ⟨0, n, Nat.zero_le _, rfl, rfl, hn, by show _ = _; simp, ?_, (Keeps.refl _ _).alloc _⟩
    have := Blk.new w (List.replicate m (.int .u8 0)) 5
    have e : lowTo m 0 n = List.replicate m 0 := by simp [lowTo, lowL]
    rw [e]
    simpa using this
  case round =>
    obtain ⟨k, x, hk, rfl, rfl, hx, hxe, hb, hkp⟩ := hrel
    have HB := Lib.hid hb
    have HK := Lib.hid hkp
    by_cases hlt : k < m
    · have c2 := hb.cellD k _ (map_getD 0 (show k < (lowTo m k n).length by rw [lowTo_len m k n hk]; exact hlt))
      have c3 := hb.frozen k
      clear hb hkp hmk
      go_wp2
      go_roundw
      case rel =>
        refine ⟨k + 1, x / 256, by omega, by go_num, by go_num, by omega, ?_, ?_, HK.out.setCell _ _ (by simp)⟩
        · show x / 256 = n / 256 ^ (k + 1)
          rw [hxe.out, Nat.div_div_eq_div_mul, Nat.pow_succ]
        · have := HB.out.set k (.int .u8 ((x % 256 : Nat) : Int))
          rw [← lowTo_set m k n hlt, List.map_set, ← hxe.out]
          exact this
      case measure => simp [intOf]; omega
    · clear hb hkp hmk
      obtain rfl : k = m := by omega
      have fin : Own wr w.heap.size (.slice (some ⟨w.heap.size, 0, none⟩) k k) (lowL k n) := by
        have hb := HB.out
        have e : lowTo k k n = lowL k n := by simp [lowTo]
        rw [e] at hb
        refine ⟨⟨by simp [lowL_len], .inr ⟨w.heap.size, k, _, by simp [lowL_len], Nat.le_refl _, hb, by simp [lowL_len], by unfold maxLen; omega, by simp [lowL_len], by rw [lowL_len, List.take_of_length_le (by simp [lowL_len])]⟩⟩, lowL_byte k n⟩
      have FIN := Lib.hid fin
      clear fin
      go_wp2
      go_ret
      exact ⟨_, rfl, FIN.out, HK.out⟩

set_option maxRecDepth 100000 in
set_option maxHeartbeats 800000 in
theorem rsnumber_any (A : Option Addr) (n cap : Nat) (zs : List Int) (w : World) (h : Bs w A n cap zs) (hn : n ≤ 8) : Calls Try.prog 34 #[.slice A n cap] w fun e w' => e = .returned (.int .u64 ((numN zs : Nat) : Int)) ∧ w = w' := by
  have hle := h.le
  have hmax := h.max
  have HL := Lib.hid h.len
  have HB := Lib.hid h
  clear h
  go_enter Try.func34, Try.ntmps34
  go_wp2
  go_loop [3, 4] (fun nv iv => ∃ k : Nat, k ≤ n ∧ iv = .int .i64 ((k : Int) - 1) ∧ nv = .int .u64 ((numN (zs.drop k) : Nat) : Int)) (fun _ iv => (intOf iv + 1).toNat)
  case atStart => exact ⟨n, Nat.le_refl _, rfl, by rw [List.drop_eq_nil_of_le (by rw [HL.out]; exact Nat.le_refl _)]; rfl⟩
  case round =>
    obtain ⟨k, hk, rfl, rfl⟩ := hrel
    cases k with
    | zero =>
      rw [List.drop_zero]
      have e0 : ((0 : Nat) : Int) - 1 = -1 := rfl
      rw [e0]
      clear e0
      obtain ⟨x, hx⟩ : ∃ x, numN zs = x := ⟨_, rfl⟩
      have HX := Lib.hid hx
      rw [hx]
      clear hx
      go_wp2
      go_ret
      exact ⟨by rw [HX.out]; rfl, rfl⟩
    | succ k =>
      have hlt : k < n := by omega
      obtain ⟨bl, of1, z, rfl, hz1, hza, hzb, hc1⟩ := HB.out.get hlt
      obtain ⟨c, rfl⟩ : ∃ c : Nat, z = c := ⟨z.toNat, by omega⟩
      have e0 : ((k + 1 : Nat) : Int) - 1 = k := by omega
      rw [e0]
      have hd : zs.drop k = (c : Int) :: zs.drop (k + 1) := by
        rw [List.drop_eq_getElem_cons (by rw [HL.out]; exact hlt)]
        congr 1
        rw [← hz1]; simp [List.getD, HL.out, hlt]
      have HD : Hid (numN (zs.drop k) = numN (zs.drop (k + 1)) * 256 + c) := by
        show _ = _
        rw [hd, numN]; omega
      have hx : numN (zs.drop (k + 1)) < 72057594037927936 := by
        have h1 := numN_lt (zs.drop (k + 1)) (fun y hy => HB.out.byte y (List.mem_of_mem_drop hy))
        have h2 : 256 ^ (zs.drop (k + 1)).length ≤ 256 ^ 7 := Nat.pow_le_pow_right (by decide) (by rw [List.length_drop, HL.out]; omega)
        have h3 : (256 : Nat) ^ 7 = 72057594037927936 := by decide
        omega
      generalize numN (zs.drop (k + 1)) = x at *
      clear hz1 hd e0
      go_wp2
      go_round
      case rel => exact ⟨k, by omega, by first | rfl | go_num, by rw [HD.out]; go_num⟩
      case measure => simp [intOf]

end Go.Proofs.Ytfldgaiiniknpaa
/- The walks of package nor. -/
namespace Go.Proofs.Ytfldgaiiniknpaa
open Go.RowKit

/-- Can some bytes be programmed to others? -/
def canN (os ns : List Int) : Bool := decide (os.length = ns.length ∧ ∀ i, i < os.length → bits .andNot .u8 (ns.getD i 0) (os.getD i 0) = 0)
/-- A bool, and some draws. -/
def Told (b : Bool) (w : World) (e : Ending) (w' : World) : Prop := e = .returned (.bool b) ∧ ∃ m, w' = w.drewN m
theorem Told.same {b : Bool} {w : World} : Told b w (.returned (.bool b)) w := ⟨rfl, 0, rfl⟩

set_option maxRecDepth 100000 in
set_option maxHeartbeats 800000 in
theorem can_any (A1 A2 : Option Addr) (n1 c1 n2 c2 : Nat) (os ns : List Int) (w : World) (h1 : Bs w A1 n1 c1 os) (h2 : Bs w A2 n2 c2 ns) :
    Calls Try.prog 99 #[.slice A1 n1 c1, .slice A2 n2 c2] w (Told (canN os ns) w) := by
  have m1 := h1.le
  have m2 := h1.max
  have m3 := h2.le
  have m4 := h2.max
  by_cases hn : n1 = n2
  · subst hn
    have e1 : ((n1 : Int) != n1) = false := by simp
    have H1 := Lib.hid h1
    have H2 := Lib.hid h2
    clear h1 h2
    go_enter Try.func99, Try.ntmps99
    go_wp2
    go_loopw [13] (fun i wr => ∃ k m : Nat, k ≤ n1 ∧ i = .int .i64 k ∧ wr = w.drewN m ∧ ∀ i, i < k → bits .andNot .u8 (ns.getD i 0) (os.getD i 0) = 0) (fun i _ => n1 - (intOf i).toNat)
    case atStart => exact ⟨0, 0, Nat.zero_le _, rfl, rfl, fun i hi => by omega⟩
    case round =>
      obtain ⟨k, m, hkn, rfl, rfl, hall⟩ := hrel
      have HA := Lib.hid hall
      clear hall
      by_cases hlt : k < n1
      · obtain ⟨b1, o1, z1, rfl, g1, _, _, cc1⟩ := H1.out.get hlt
        obtain ⟨b2, o2, z2, rfl, g2, _, _, cc2⟩ := H2.out.get hlt
        have G1 := Lib.hid g1
        have G2 := Lib.hid g2
        clear g1 g2
        by_cases hb : bits .andNot .u8 z2 z1 = 0
        · have q : (bits .andNot .u8 z2 z1 != 0) = false := by simp [hb]
          have HB := Lib.hid hb
          clear hb
          go_wp2
          go_quiet (fail)
          go_wp2
          go_roundw
          case rel =>
            refine ⟨k + 1, m + nq, by omega, by go_num, (by first | rfl | rw [World.drewN_drewN]), fun i hi => ?_⟩
            by_cases h : i = k
            · subst h; rw [G1.out, G2.out]; exact HB.out
            · exact HA.out i (by omega)
          case measure => simp [intOf]; omega
        · have q : (bits .andNot .u8 z2 z1 != 0) = true := by simp [hb]
          have fin : canN os ns = false := by
            simp only [canN, decide_eq_false_iff_not]
            intro h
            exact hb (by rw [← G1.out, ← G2.out]; exact h.2 k (by have := H1.out.len; omega))
          have FIN := Lib.hid fin
          clear hb fin
          go_wp2
          go_quiet (fail)
          go_wp2
          go_ret
          exact ⟨ret_bool FIN.out.symm, m + nq, by first | rfl | rw [World.drewN_drewN]⟩
      · have fin : canN os ns = true := by
          simp only [canN, decide_eq_true_eq]
          have l1 := H1.out.len
          have l2 := H2.out.len
          exact ⟨by omega, fun i hi => HA.out i (by omega)⟩
        have FIN := Lib.hid fin
        clear fin
        go_wp2
        go_ret
        exact ⟨ret_bool FIN.out.symm, m, rfl⟩
  · have e1 : ((n1 : Int) != n2) = true := by simp; omega
    have fin : canN os ns = false := by
      simp only [canN, decide_eq_false_iff_not]
      have l1 := h1.len
      have l2 := h2.len
      intro h; exact hn (by omega)
    rw [fin]
    clear fin h1 h2 hn
    go_enter Try.func99, Try.ntmps99
    go_wp2
    go_ret
    exact ⟨rfl, 0, rfl⟩

set_option maxRecDepth 100000 in
set_option maxHeartbeats 800000 in
theorem nat_any (A : Option Addr) (n cap : Nat) (zs : List Int) (i : Nat) (w : World) (h : Bs w A n cap zs) (hi : i < 9223372036854775807) :
    Calls Try.prog 100 #[.slice A n cap, .int .i64 i] w fun e w' => e = .returned (.int .u8 (zs.getD i 0)) ∧ w = w' := by
  have m1 := h.le
  have m2 := h.max
  by_cases hlt : i < n
  · obtain ⟨b, off, z, rfl, g, _, _, cc⟩ := h.get hlt
    rw [g]
    clear g
    go_enter Try.func100, Try.ntmps100
    go_wp2
    go_ret
    exact ⟨rfl, rfl⟩
  · have g : zs.getD i 0 = 0 := by
      have := h.len
      simp [List.getD, List.getElem?_eq_none (show zs.length ≤ i by omega)]
    rw [g]
    clear g
    go_enter Try.func100, Try.ntmps100
    go_wp2
    go_ret
    exact ⟨rfl, rfl⟩

theorem bits_or_bd (a b : Int) (h1 : 0 ≤ a ∧ a ≤ 255) (h2 : 0 ≤ b ∧ b ≤ 255) : 0 ≤ bits .or .u8 a b ∧ bits .or .u8 a b ≤ 255 := by
  rw [u8_or a b h1.1 (by omega) h2.1 (by omega)]
  have : a.toNat ||| b.toNat < 2 ^ 8 := Nat.or_lt_two_pow (by omega) (by omega)
  omega
theorem bits_and_bd (a b : Int) (h1 : 0 ≤ a ∧ a ≤ 255) (h2 : 0 ≤ b ∧ b ≤ 255) : 0 ≤ bits .and .u8 a b ∧ bits .and .u8 a b ≤ 255 := by
  rw [u8_and a b h1.1 (by omega) h2.1 (by omega)]
  have : a.toNat &&& b.toNat ≤ a.toNat := Nat.and_le_left
  omega
/-- What stands there when bytes were programmed; nothing where they can't be. -/
def progN (os ns : List Int) : List Int := if canN os ns then ns else []

theorem Told.toKeeps {b : Bool} {w w' : World} {e : Ending} (h : Told b w e w') : Keeps None w w' := by
  obtain ⟨_, m, rfl⟩ := h; exact (Keeps.refl _ _).drewN m
theorem Cloned.from {w w1 w' : World} {zs : List Int} {e : Ending} (h : Cloned w1 zs e w') (k : Keeps None w w1) : Cloned w zs e w' := by
  obtain ⟨v, h1, h2, h3⟩ := h
  exact ⟨v, h1, h2.lower k.size, k.trans h3 (fun _ h => h) (fun _ _ h => h)⟩

set_option maxRecDepth 100000 in
set_option maxHeartbeats 800000 in
theorem program_any (A1 A2 : Option Addr) (n1 c1 n2 c2 : Nat) (os ns : List Int) (w : World) (h1 : Bs w A1 n1 c1 os) (h2 : Bs w A2 n2 c2 ns) (hn : n2 ≤ 140737488355328) :
    Calls Try.prog 94 #[.slice A1 n1 c1, .slice A2 n2 c2] w (Cloned w (progN os ns)) := by
  have HC := Lib.hid (can_any A1 A2 n1 c1 n2 c2 os ns w h1 h2)
  cases hc : canN os ns with
  | true =>
    rw [hc] at HC
    have fin : progN os ns = ns := by simp [progN, hc]
    have HK := Lib.hid fun m => clone_any A2 n2 c2 ns (w.drewN m) (h2.drewN m) hn
    have FIN := Lib.hid fin
    clear fin hc h1 h2
    go_enter Try.func94, Try.ntmps94
    go_wp2_with fail
    refine HC.out.mono ?_
    rintro e w1 ⟨rfl, m, rfl⟩
    go_wp2_with fail
    refine (HK.out m).mono ?_
    rintro e w1 ⟨v, rfl, ho, hk⟩
    go_wp2
    go_ret
    rw [FIN.out]
    exact Cloned.from ⟨v, rfl, ho, hk⟩ ((Keeps.refl _ _).drewN m)
  | false =>
    rw [hc] at HC
    have fin : progN os ns = [] := by simp [progN, hc]
    have FIN := Lib.hid fin
    clear fin hc h1 h2
    go_enter Try.func94, Try.ntmps94
    go_wp2_with fail
    refine HC.out.mono ?_
    rintro e w1 ⟨rfl, m, rfl⟩
    go_wp2
    go_ret
    rw [FIN.out]
    exact ⟨_, rfl, Own.nil _ _, (Keeps.refl _ _).drewN m⟩

/-- What stands there when power went while bytes were programmed. -/
def tornAt (os ns ps : List Int) (i : Nat) : Int := bits .or .u8 (ns.getD i 0) (bits .and .u8 (os.getD i 0) (ps.getD i 0))
def tornTo (os ns ps : List Int) (k : Nat) : List Int := (List.range ns.length).map fun i => if i < k then tornAt os ns ps i else ns.getD i 0
def tornN (os ns ps : List Int) : List Int := if canN os ns then tornTo os ns ps ns.length else []

theorem range_set (n k : Nat) (f : Nat → Int) (v : Int) (hk : k < n) : ((List.range n).map f).set k v = (List.range n).map fun i => if i = k then v else f i := by
  apply List.ext_getElem?
  intro i
  by_cases hi : i < n
  · by_cases h : k = i
    · subst h; simp [hi]
    · rw [List.getElem?_set_ne h]
      have h' : ¬ i = k := fun e => h e.symm
      simp [hi, h']
  · have : ¬ k = i := by omega
    rw [List.getElem?_set_ne this]
    simp [hi]
theorem tornTo_zero (os ns ps : List Int) : tornTo os ns ps 0 = ns := by
  unfold tornTo
  apply List.ext_getElem?
  intro i
  by_cases hi : i < ns.length
  · simp [hi]
  · simp [hi]
theorem tornTo_succ (os ns ps : List Int) (k : Nat) (hk : k < ns.length) : (tornTo os ns ps k).set k (tornAt os ns ps k) = tornTo os ns ps (k + 1) := by
  unfold tornTo
  rw [range_set _ _ _ _ hk]
  refine List.map_congr_left fun i _ => ?_
  by_cases h : i = k
  · subst h; simp
  · by_cases h2 : i < k
    · simp [h, h2, show i < k + 1 by omega]
    · simp [h, h2, show ¬ i < k + 1 by omega]
theorem tornTo_get (os ns ps : List Int) (k : Nat) (hk : k < ns.length) : (tornTo os ns ps k).getD k 0 = ns.getD k 0 := by
  unfold tornTo; simp [List.getD, hk]
theorem tornTo_length (os ns ps : List Int) (k : Nat) : (tornTo os ns ps k).length = ns.length := by simp [tornTo]

set_option maxRecDepth 100000 in
set_option maxHeartbeats 1600000 in
theorem torn_any (A1 A2 A3 : Option Addr) (n1 c1 n2 c2 n3 c3 : Nat) (os ns ps : List Int) (w : World) (h1 : Bs w A1 n1 c1 os) (h2 : Bs w A2 n2 c2 ns) (h3 : Bs w A3 n3 c3 ps) (hn : n2 ≤ 140737488355328) :
    Calls Try.prog 93 #[.slice A1 n1 c1, .slice A2 n2 c2, .slice A3 n3 c3] w (Cloned w (tornN os ns ps)) := by
  have HC := Lib.hid (can_any A1 A2 n1 c1 n2 c2 os ns w h1 h2)
  cases hc : canN os ns with
  | false =>
    rw [hc] at HC
    have fin : tornN os ns ps = [] := by simp [tornN, hc]
    have FIN := Lib.hid fin
    clear fin hc h1 h2 h3
    go_enter Try.func93, Try.ntmps93
    go_wp2_with fail
    refine HC.out.mono ?_
    rintro e w1 ⟨rfl, m, rfl⟩
    go_wp2
    go_ret
    rw [FIN.out]
    exact ⟨_, rfl, Own.nil _ _, (Keeps.refl _ _).drewN m⟩
  | true =>
    rw [hc] at HC
    have hlen : os.length = ns.length := by simp only [canN, decide_eq_true_eq] at hc; exact hc.1
    have fin : tornN os ns ps = tornTo os ns ps ns.length := by simp [tornN, hc]
    have HK := Lib.hid fun m => clone_any A2 n2 c2 ns (w.drewN m) (h2.drewN m) hn
    have FIN := Lib.hid fin
    have hl1 := h1.len
    have hl2 := h2.len
    have e12 : n1 = n2 := by omega
    have hb2 := h2.byte
    have H1 := Lib.hid h1
    have H3 := Lib.hid h3
    have hle1 := h1.le
    have hmx1 := h1.max
    clear fin hc h1 h2 h3
    subst e12
    have HL1 := Lib.hid hl1
    have HL2 := Lib.hid hl2
    have HB2 := Lib.hid hb2
    clear hlen hl1 hl2 hb2
    go_enter Try.func93, Try.ntmps93
    go_wp2_with fail
    refine HC.out.mono ?_
    rintro e w1 ⟨rfl, m, rfl⟩
    go_wp2_with fail
    refine (HK.out m).mono ?_
    rintro e w1 ⟨v, rfl, ho, hk⟩
    obtain ⟨A, cap, hv, hbs, hfr⟩ := ho.shape
    rw [HL2.out] at hv hbs
    subst hv
    have hle := hbs.le
    have hmx := hbs.max
    have k1 : Keeps None w w1 := ⟨hk.os, hk.tape, hk.output, hk.size, hk.block⟩
    have HO := Lib.hid ho
    clear ho hbs hfr hk HC HK
    go_wp2
    go_loopw [17] (fun i wr => ∃ k : Nat, k ≤ n1 ∧ i = .int .i64 k ∧ Own wr w.heap.size (.slice A n1 cap) (tornTo os ns ps k) ∧ Keeps (fun b => w.heap.size ≤ b) w wr) (fun i _ => n1 - (intOf i).toNat)
    case atStart => exact ⟨0, Nat.zero_le _, rfl, by rw [tornTo_zero]; exact HO.out, k1.ofNone⟩
    case round =>
      obtain ⟨k, hkn, rfl, hO, hK⟩ := hrel
      by_cases hlt : k < n1
      · obtain ⟨g, rfl, hg1, hg2, hgl, hle', hmx', hgc, hgf⟩ := hO.at_ hlt
        obtain ⟨b1, o1, z1, rfl, g1, z1a, z1b, cc0⟩ := H1.out.get hlt
        have hb1 : b1 < w.heap.size := by obtain ⟨b, off, e, hb, _⟩ := H1.out.at_ (by omega); cases e; exact hb
        have cc1 := (hK.cell (p := ⟨b1, o1 + k, none⟩) hb1 (by simp; exact hb1)).trans cc0
        have hP : Bs wr A3 n3 c3 ps := H3.out.later hK
        have hT : tornTo os ns ps k = tornTo os ns ps k := rfl
        have z2b := byte_getD HB2.out k
        rw [tornTo_get os ns ps k (by rw [HL2.out]; exact hlt)] at hgc
        have z3b := byte_getD hP.byte k
        have HT := Lib.hid (show bits .or .u8 (ns.getD k 0) (bits .and .u8 z1 (ps.getD k 0)) = tornAt os ns ps k from by rw [tornAt, g1])
        have NA := Lib.hid (nat_any A3 n3 c3 ps k wr.drew hP.drew (by omega))
        have z13 := bits_and_bd z1 (ps.getD k 0) ⟨z1a, z1b⟩ z3b
        have z4 := bits_or_bd (ns.getD k 0) _ z2b z13
        generalize ns.getD k 0 = z2 at *
        generalize ps.getD k 0 = z3 at *
        have HO2 := Lib.hid (hO.store rfl k _ z4 (by rw [tornTo_length, HL2.out]; exact hlt))
        have HK2 := Lib.hid hK
        clear hO hK hP hT g1 HO hgl
        go_wp2
        obtain ⟨mS, mh⟩ : ∃ S : World → Prop, ∀ w', S w' ↔ (w'.cell? ⟨g, k, none⟩ = some (.int .u8 z2) ∧ w'.cell? ⟨b1, o1 + k, none⟩ = some (.int .u8 z1)) := ⟨_, fun _ => Iff.rfl⟩
        have mk0 : ∀ x : Memb mS, x.at_.cell? ⟨g, k, none⟩ = some (.int .u8 z2) := fun x => ((mh _).1 x.is).1
        have mk1 : ∀ x : Memb mS, x.at_.cell? ⟨b1, o1 + k, none⟩ = some (.int .u8 z1) := fun x => ((mh _).1 x.is).2
        have mn : Nonempty (Memb mS) := ⟨⟨(wr).drew, (mh _).2 ⟨hgc, cc1⟩⟩⟩
        have mH := Lib.hid mh
        clear mh
        refine wp_region_mix [10, 14] (InS mS) (by kernel_rfl) (by kernel_rfl) (InS.mk ((mH.out _).2 ⟨hgc, cc1⟩)) ?_
        refine wpMix_seg 10 (by kernel_rfl) (by decide) ?_
        simp only [List.take_succ_cons, List.take_zero, List.drop_succ_cons, List.drop_zero]
        repeat (go_big_quiet_step (fail))
        refine wpQuiet_nil ?_
        refine wpMix_eff (by kernel_rfl) ?_
        go_wp2_with fail
        refine NA.out.mono ?_
        rintro e w3 ⟨rfl, rfl⟩
        go_wp2
        refine MixK.on (InS.mk ((mH.out _).2 ⟨hgc, cc1⟩)) ?_
        refine wpMix_seg 3 (by kernel_rfl) (by decide) ?_
        simp only [List.take_succ_cons, List.take_zero, List.drop_succ_cons, List.drop_zero]
        repeat (go_big_quiet_step (fail))
        refine wpQuiet_nil ?_
        refine wpMix_eff (by kernel_rfl) ?_
        go_wp2
        refine MixK.last (by kernel_rfl) ?_
        refine wpMix_nil ?_
        clear mk0 mk1 mn mH
        go_wp2
        go_roundw
        case rel =>
          refine ⟨k + 1, by omega, by go_num, ?_, ?_⟩
          · rw [← tornTo_succ os ns ps k (by rw [HL2.out]; exact hlt), ← HT.out]; exact HO2.out.drew
          · exact (HK2.out.setCell _ _ (fun _ => hg1)).drew
        case measure => simp [intOf]; omega
      · have e : k = n1 := by omega
        subst e
        have fin : tornTo os ns ps k = tornN os ns ps := by rw [FIN.out, HL2.out]
        have FIN2 := Lib.hid fin
        have HO2 := Lib.hid hO
        have HK2 := Lib.hid hK
        clear hO hK fin HO
        go_wp2
        go_ret
        exact ⟨_, rfl, by rw [← FIN2.out]; exact HO2.out, HK2.out.mono (fun i hi h => absurd h (Nat.not_le.2 hi))⟩

/-- May bytes be seen when power went while they were programmed? -/
def betweenN (os ns ss : List Int) : Bool := canN os ns && canN os ss && canN ss ns

theorem Told.to {b b' : Bool} {w w' : World} {n : Nat} {e : Ending} (h : Told b (w.drewN n) e w') (hb : b = b') : Told b' w e w' := by
  obtain ⟨h1, m, h2⟩ := h
  exact ⟨by rw [← hb]; exact h1, n + m, by rw [h2, World.drewN_drewN]⟩

end Go.Proofs.Ytfldgaiiniknpaa
/- The walks of package nor: Half, Blank, IsBlank; the law's alive and Short. -/
namespace Go.Proofs.Ytfldgaiiniknpaa
open Go.RowKit

/-- What stands there when power went while bytes were erased. -/
def halfAt (os ps : List Int) (i : Nat) : Int := bits .or .u8 (os.getD i 0) (ps.getD i 0)
def halfTo (os ps : List Int) (k : Nat) : List Int := (List.range os.length).map fun i => if i < k then halfAt os ps i else os.getD i 0
def halfN (os ps : List Int) : List Int := halfTo os ps os.length
theorem halfTo_zero (os ps : List Int) : halfTo os ps 0 = os := by
  unfold halfTo
  apply List.ext_getElem?
  intro i
  by_cases hi : i < os.length
  · simp [hi]
  · simp [hi]
theorem halfTo_succ (os ps : List Int) (k : Nat) (hk : k < os.length) : (halfTo os ps k).set k (halfAt os ps k) = halfTo os ps (k + 1) := by
  unfold halfTo
  rw [range_set _ _ _ _ hk]
  refine List.map_congr_left fun i _ => ?_
  by_cases h : i = k
  · subst h; simp
  · by_cases h2 : i < k
    · simp [h, h2, show i < k + 1 by omega]
    · simp [h, h2, show ¬ i < k + 1 by omega]
theorem halfTo_get (os ps : List Int) (k : Nat) (hk : k < os.length) : (halfTo os ps k).getD k 0 = os.getD k 0 := by
  unfold halfTo; simp [List.getD, hk]
theorem halfTo_length (os ps : List Int) (k : Nat) : (halfTo os ps k).length = os.length := by simp [halfTo]

set_option maxRecDepth 100000 in
set_option maxHeartbeats 1600000 in
theorem half_any (A1 A3 : Option Addr) (n1 c1 n3 c3 : Nat) (os ps : List Int) (w : World) (h1 : Bs w A1 n1 c1 os) (h3 : Bs w A3 n3 c3 ps) (hn : n1 ≤ 140737488355328) :
    Calls Try.prog 101 #[.slice A1 n1 c1, .slice A3 n3 c3] w (Cloned w (halfN os ps)) := by
  have HK := Lib.hid (clone_any A1 n1 c1 os w h1 hn)
  have hl2 := h1.len
  have hb2 := h1.byte
  have H3 := Lib.hid h3
  clear h1 h3
  have FIN : Hid (halfN os ps = halfTo os ps os.length) := rfl
  have HL2 := Lib.hid hl2
  have HB2 := Lib.hid hb2
  clear hl2 hb2
  go_enter Try.func101, Try.ntmps101
  go_wp2_with fail
  refine HK.out.mono ?_
  rintro e w1 ⟨v, rfl, ho, hk⟩
  obtain ⟨A, cap, hv, hbs, hfr⟩ := ho.shape
  rw [HL2.out] at hv hbs
  subst hv
  have hle := hbs.le
  have hmx := hbs.max
  have HO := Lib.hid ho
  have K1 := Lib.hid hk
  clear ho hbs hfr hk HK
  go_wp2
  go_loopw [11] (fun i wr => ∃ k : Nat, k ≤ n1 ∧ i = .int .i64 k ∧ Own wr w.heap.size (.slice A n1 cap) (halfTo os ps k) ∧ Keeps (fun b => w.heap.size ≤ b) w wr) (fun i _ => n1 - (intOf i).toNat)
  case atStart => exact ⟨0, Nat.zero_le _, rfl, by rw [halfTo_zero]; exact HO.out, K1.out.ofNone⟩
  case round =>
    obtain ⟨k, hkn, rfl, hO, hK⟩ := hrel
    by_cases hlt : k < n1
    · obtain ⟨g, rfl, hg1, hg2, hgl, hle', hmx', hgc, hgf⟩ := hO.at_ hlt
      have hP : Bs wr A3 n3 c3 ps := H3.out.later hK
      have z2b := byte_getD HB2.out k
      rw [halfTo_get os ps k (by rw [HL2.out]; exact hlt)] at hgc
      have z3b := byte_getD hP.byte k
      have HT : Hid (bits .or .u8 (os.getD k 0) (ps.getD k 0) = halfAt os ps k) := rfl
      have NA := Lib.hid (nat_any A3 n3 c3 ps k wr.drew hP.drew (by omega))
      have z4 := bits_or_bd (os.getD k 0) _ z2b z3b
      generalize os.getD k 0 = z2 at *
      generalize ps.getD k 0 = z3 at *
      have HO2 := Lib.hid (hO.store rfl k _ z4 (by rw [halfTo_length, HL2.out]; exact hlt))
      have HK2 := Lib.hid hK
      clear hO hK hP HO hgl
      go_wp2
      obtain ⟨mS, mh⟩ : ∃ S : World → Prop, ∀ w', S w' ↔ (w'.cell? ⟨g, k, none⟩ = some (.int .u8 z2)) := ⟨_, fun _ => Iff.rfl⟩
      have mk0 : ∀ x : Memb mS, x.at_.cell? ⟨g, k, none⟩ = some (.int .u8 z2) := fun x => ((mh _).1 x.is)
      have mn : Nonempty (Memb mS) := ⟨⟨(wr).drew, (mh _).2 (hgc)⟩⟩
      have mH := Lib.hid mh
      clear mh
      refine wp_region_mix [6, 9] (InS mS) (by kernel_rfl) (by kernel_rfl) (InS.mk ((mH.out _).2 (hgc))) ?_
      refine wpMix_seg 6 (by kernel_rfl) (by decide) ?_
      simp only [List.take_succ_cons, List.take_zero, List.drop_succ_cons, List.drop_zero]
      repeat (go_big_quiet_step (fail))
      refine wpQuiet_nil ?_
      refine wpMix_eff (by kernel_rfl) ?_
      go_wp2_with fail
      refine NA.out.mono ?_
      rintro e w3 ⟨rfl, rfl⟩
      go_wp2
      refine MixK.on (InS.mk ((mH.out _).2 (hgc))) ?_
      refine wpMix_seg 2 (by kernel_rfl) (by decide) ?_
      simp only [List.take_succ_cons, List.take_zero, List.drop_succ_cons, List.drop_zero]
      repeat (go_big_quiet_step (fail))
      refine wpQuiet_nil ?_
      refine wpMix_eff (by kernel_rfl) ?_
      go_wp2
      refine MixK.last (by kernel_rfl) ?_
      refine wpMix_nil ?_
      clear mk0 mn mH
      go_wp2
      go_roundw
      case rel =>
        refine ⟨k + 1, by omega, by go_num, ?_, ?_⟩
        · rw [← halfTo_succ os ps k (by rw [HL2.out]; exact hlt), ← HT.out]; exact HO2.out.drew
        · exact (HK2.out.setCell _ _ (fun _ => hg1)).drew
      case measure => simp [intOf]; omega
    · have e : k = n1 := by omega
      subst e
      have fin : halfTo os ps k = halfN os ps := by rw [FIN.out, HL2.out]
      have FIN2 := Lib.hid fin
      have HO2 := Lib.hid hO
      have HK2 := Lib.hid hK
      clear hO hK fin HO
      go_wp2
      go_ret
      exact ⟨_, rfl, by rw [← FIN2.out]; exact HO2.out, HK2.out.mono (fun i hi h => absurd h (Nat.not_le.2 hi))⟩

/-- How many blank bytes. -/
def blankN (n : Int) : List Int := List.replicate (max 0 (min n 65536)).toNat 255
/-- k bytes laid blank, the rest 0. -/
def blankTo (n k : Nat) : List Int := List.replicate k 255 ++ List.replicate (n - k) 0
theorem blankTo_set (n k : Nat) (h : k < n) : (blankTo n k).set k 255 = blankTo n (k + 1) := by
  unfold blankTo
  obtain ⟨m, rfl⟩ : ∃ m, n = k + 1 + m := ⟨n - (k + 1), by omega⟩
  rw [show k + 1 + m - k = m + 1 by omega, show k + 1 + m - (k + 1) = m by omega, List.replicate_succ, List.set_append]
  simp [List.replicate_succ', List.append_assoc]
theorem blankTo_length (n k : Nat) (h : k ≤ n) : (blankTo n k).length = n := by simp [blankTo]; omega
theorem blankTo_zero (n : Nat) : blankTo n 0 = List.replicate n 0 := by simp [blankTo]
theorem blankTo_all (n : Nat) : blankTo n n = List.replicate n 255 := by simp [blankTo]

set_option maxRecDepth 100000 in
set_option maxHeartbeats 800000 in
theorem blank_mid (n : Int)  (m : Nat) (w : World) (hm : m ≤ 65536) (hn : 0 < n ∧ n ≤ 65536) (hL : n = (m : Int))  :
    Calls Try.prog 46 #[.int .i64 n] w (Cloned w (List.replicate m 255)) := by
  have hmk := fun w => run_make_blk (P := Try.prog) 27 5 (.int .u8 0) 1 Try.underlying27 Try.info5 rfl .i64 .i64 _ _ m hL hL (by omega) (by omega) w
  clear hL
  go_enter Try.func46, Try.ntmps46
  go_wp2_with fail
  go_loopw [11] (fun i wr => ∃ k : Nat, k ≤ m ∧ i = .int .i64 k ∧ Blk wr w.heap.size ((blankTo m k).map (.int .u8)) 5 ∧ Keeps None w wr) (fun i _ => m - (intOf i).toNat)
  case atStart =>
    refine ⟨0, Nat.zero_le _, rfl, ?_, (Keeps.refl _ _).alloc _⟩
    have := Blk.new w (List.replicate m (.int .u8 0)) 5
    rw [blankTo_zero]
    simpa using this
  case round =>
    obtain ⟨k, hk, rfl, hb, hkp⟩ := hrel
    have HB := Lib.hid hb
    by_cases hlt : k < m
    · have c2 := hb.cellD k _ (map_getD 0 (show k < (blankTo m k).length by rw [blankTo_length m k hk]; exact hlt))
      have c3 := hb.frozen k
      clear hb
      go_wp2
      go_roundw
      case rel =>
        refine ⟨k + 1, by omega, by go_num, ?_, hkp.setCell _ _ (by simp)⟩
        have := HB.out.set k (.int .u8 255)
        rw [← blankTo_set m k hlt, List.map_set]; exact this
      case measure => simp [intOf]; omega
    · clear hb
      obtain rfl : k = m := by omega
      have fin : Own wr w.heap.size (.slice (some ⟨w.heap.size, 0, none⟩) k k) (List.replicate k 255) := by
        have hb := HB.out
        rw [blankTo_all] at hb
        refine ⟨⟨by simp, .inr ⟨w.heap.size, k, _, by simp, Nat.le_refl _, hb, by simp, by unfold maxLen; omega, by simp, by simp⟩⟩, fun z hz => ?_⟩
        rw [(List.mem_replicate.1 hz).2]; decide
      have FIN := Lib.hid fin
      clear fin
      go_wp2
      go_ret
      exact ⟨_, rfl, FIN.out, hkp⟩
set_option maxRecDepth 100000 in
set_option maxHeartbeats 800000 in
theorem blank_low (n : Int)  (m : Nat) (w : World) (hm : m ≤ 65536) (hn : n ≤ 0) (hL : 0 = (m : Int))  :
    Calls Try.prog 46 #[.int .i64 n] w (Cloned w (List.replicate m 255)) := by
  have hmk := fun w => run_make_blk (P := Try.prog) 27 5 (.int .u8 0) 1 Try.underlying27 Try.info5 rfl .i64 .i64 _ _ m hL hL (by omega) (by omega) w
  clear hL
  go_enter Try.func46, Try.ntmps46
  go_wp2_with fail
  go_loopw [11] (fun i wr => ∃ k : Nat, k ≤ m ∧ i = .int .i64 k ∧ Blk wr w.heap.size ((blankTo m k).map (.int .u8)) 5 ∧ Keeps None w wr) (fun i _ => m - (intOf i).toNat)
  case atStart =>
    refine ⟨0, Nat.zero_le _, rfl, ?_, (Keeps.refl _ _).alloc _⟩
    have := Blk.new w (List.replicate m (.int .u8 0)) 5
    rw [blankTo_zero]
    simpa using this
  case round =>
    obtain ⟨k, hk, rfl, hb, hkp⟩ := hrel
    have HB := Lib.hid hb
    by_cases hlt : k < m
    · have c2 := hb.cellD k _ (map_getD 0 (show k < (blankTo m k).length by rw [blankTo_length m k hk]; exact hlt))
      have c3 := hb.frozen k
      clear hb
      go_wp2
      go_roundw
      case rel =>
        refine ⟨k + 1, by omega, by go_num, ?_, hkp.setCell _ _ (by simp)⟩
        have := HB.out.set k (.int .u8 255)
        rw [← blankTo_set m k hlt, List.map_set]; exact this
      case measure => simp [intOf]; omega
    · clear hb
      obtain rfl : k = m := by omega
      have fin : Own wr w.heap.size (.slice (some ⟨w.heap.size, 0, none⟩) k k) (List.replicate k 255) := by
        have hb := HB.out
        rw [blankTo_all] at hb
        refine ⟨⟨by simp, .inr ⟨w.heap.size, k, _, by simp, Nat.le_refl _, hb, by simp, by unfold maxLen; omega, by simp, by simp⟩⟩, fun z hz => ?_⟩
        rw [(List.mem_replicate.1 hz).2]; decide
      have FIN := Lib.hid fin
      clear fin
      go_wp2
      go_ret
      exact ⟨_, rfl, FIN.out, hkp⟩
set_option maxRecDepth 100000 in
set_option maxHeartbeats 800000 in
theorem blank_high (n : Int)  (m : Nat) (w : World) (hm : m ≤ 65536) (hn : 65536 < n) (hL : 65536 = (m : Int))  :
    Calls Try.prog 46 #[.int .i64 n] w (Cloned w (List.replicate m 255)) := by
  have hmk := fun w => run_make_blk (P := Try.prog) 27 5 (.int .u8 0) 1 Try.underlying27 Try.info5 rfl .i64 .i64 _ _ m hL hL (by omega) (by omega) w
  clear hL
  go_enter Try.func46, Try.ntmps46
  go_wp2_with fail
  go_loopw [11] (fun i wr => ∃ k : Nat, k ≤ m ∧ i = .int .i64 k ∧ Blk wr w.heap.size ((blankTo m k).map (.int .u8)) 5 ∧ Keeps None w wr) (fun i _ => m - (intOf i).toNat)
  case atStart =>
    refine ⟨0, Nat.zero_le _, rfl, ?_, (Keeps.refl _ _).alloc _⟩
    have := Blk.new w (List.replicate m (.int .u8 0)) 5
    rw [blankTo_zero]
    simpa using this
  case round =>
    obtain ⟨k, hk, rfl, hb, hkp⟩ := hrel
    have HB := Lib.hid hb
    by_cases hlt : k < m
    · have c2 := hb.cellD k _ (map_getD 0 (show k < (blankTo m k).length by rw [blankTo_length m k hk]; exact hlt))
      have c3 := hb.frozen k
      clear hb
      go_wp2
      go_roundw
      case rel =>
        refine ⟨k + 1, by omega, by go_num, ?_, hkp.setCell _ _ (by simp)⟩
        have := HB.out.set k (.int .u8 255)
        rw [← blankTo_set m k hlt, List.map_set]; exact this
      case measure => simp [intOf]; omega
    · clear hb
      obtain rfl : k = m := by omega
      have fin : Own wr w.heap.size (.slice (some ⟨w.heap.size, 0, none⟩) k k) (List.replicate k 255) := by
        have hb := HB.out
        rw [blankTo_all] at hb
        refine ⟨⟨by simp, .inr ⟨w.heap.size, k, _, by simp, Nat.le_refl _, hb, by simp, by unfold maxLen; omega, by simp, by simp⟩⟩, fun z hz => ?_⟩
        rw [(List.mem_replicate.1 hz).2]; decide
      have FIN := Lib.hid fin
      clear fin
      go_wp2
      go_ret
      exact ⟨_, rfl, FIN.out, hkp⟩
theorem blank_any (n : Int) (w : World) : Calls Try.prog 46 #[.int .i64 n] w (Cloned w (blankN n)) := by
  unfold blankN
  by_cases h1 : n ≤ 0
  · have e : (max 0 (min n 65536)).toNat = 0 := by omega
    rw [e]
    exact blank_low n 0 w (by omega) h1 rfl
  · by_cases h2 : n ≤ 65536
    · have e : (max 0 (min n 65536)).toNat = n.toNat := by omega
      rw [e]
      exact blank_mid n n.toNat w (by omega) ⟨by omega, h2⟩ (by omega)
    · have e : (max 0 (min n 65536)).toNat = 65536 := by omega
      rw [e]
      exact blank_high n 65536 w (by omega) (by omega) rfl
/-! ### IsBlank -/
def blankB (zs : List Int) : Bool := decide (∀ i, i < zs.length → zs.getD i 0 = 255)

set_option maxHeartbeats 400000 in
theorem isBlank1_any (z : Int) (w : World) : Calls Try.prog 89 #[.int .u8 z] w fun e w' => e = .returned (.bool (z != 255)) ∧ w = w' := by
  go_enter Try.func89, Try.ntmps89
  go_wp2
  all_goals (go_ret; exact ⟨rfl, rfl⟩)

/-- The index at which a byte is not blank. -/
def Indexed (zs : List Int) (w : World) (e : Ending) (w' : World) : Prop := ∃ i : Int, e = .returned (.int .i64 i) ∧ w = w' ∧ -1 ≤ i ∧ i < 9223372036854775807 ∧ (0 ≤ i ↔ blankB zs = false)

set_option maxRecDepth 100000 in
set_option maxHeartbeats 800000 in
theorem indexFunc_any (A : Option Addr) (n cap : Nat) (zs : List Int) (w : World) (h : Bs w A n cap zs) :
    Calls Try.prog 97 #[.slice A n cap, .func (.func 89) #[] #[]] w (Indexed zs w) := by
  have m1 := h.le
  have m2 := h.max
  have H := Lib.hid h
  clear h
  go_enter Try.func97, Try.ntmps97
  go_wp2
  go_loop [8] (fun i => ∃ k : Nat, k ≤ n ∧ i = .int .i64 k ∧ ∀ i, i < k → zs.getD i 0 = 255) (fun i => n - (intOf i).toNat)
  case atStart => exact ⟨0, Nat.zero_le _, rfl, fun i hi => by omega⟩
  case round =>
    obtain ⟨k, hkn, rfl, hall⟩ := hrel
    have HA := Lib.hid hall
    clear hall
    by_cases hlt : k < n
    · obtain ⟨b, off, z, rfl, g, z1, z2, cc⟩ := H.out.get hlt
      have G := Lib.hid g
      clear g
      by_cases hz : z = 255
      · have q : (z != 255) = false := by simp [hz]
        have HZ := Lib.hid hz
        clear hz
        go_wp2_with (go_at_call 89; refine (isBlank1_any _ _).mono ?_; rintro e w' ⟨rfl, rfl⟩)
        go_round
        case rel =>
          refine ⟨k + 1, by omega, by go_num, fun i hi => ?_⟩
          by_cases h : i = k
          · subst h; rw [G.out]; exact HZ.out
          · exact HA.out i (by omega)
        case measure => simp [intOf]; omega
      · have q : (z != 255) = true := by simp [hz]
        have fin : blankB zs = false := by
          simp only [blankB, decide_eq_false_iff_not]
          intro h
          exact hz (by rw [← G.out]; exact h k (by have := H.out.len; omega))
        have FIN := Lib.hid fin
        clear hz fin
        go_wp2_with (go_at_call 89; refine (isBlank1_any _ _).mono ?_; rintro e w' ⟨rfl, rfl⟩)
        go_ret
        exact ⟨k, rfl, rfl, by omega, by omega, fun _ => FIN.out, fun _ => by omega⟩
    · have fin : blankB zs = true := by
        simp only [blankB, decide_eq_true_eq]
        have l1 := H.out.len
        exact fun i hi => HA.out i (by omega)
      have FIN := Lib.hid fin
      clear fin
      go_wp2
      go_ret
      exact ⟨-1, rfl, rfl, by omega, by omega, fun h => by omega, fun h => by rw [FIN.out] at h; cases h⟩

set_option maxRecDepth 100000 in
set_option maxHeartbeats 800000 in
theorem containsFunc_any (A : Option Addr) (n cap : Nat) (zs : List Int) (w : World) (h : Bs w A n cap zs) :
    Calls Try.prog 88 #[.slice A n cap, .func (.func 89) #[] #[]] w fun e w' => e = .returned (.bool (!blankB zs)) ∧ w = w' := by
  have HI := Lib.hid (indexFunc_any A n cap zs w h)
  clear h
  go_enter Try.func88, Try.ntmps88
  go_wp2_with fail
  refine HI.out.mono ?_
  rintro e w1 ⟨i, rfl, rfl, i1, i2, i3⟩
  have fin : decide (0 ≤ i) = !blankB zs := by
    cases hb : blankB zs
    · simp [hb] at i3 ⊢; exact i3
    · simp [hb] at i3 ⊢; exact i3
  have FIN := Lib.hid fin
  clear i3 fin
  go_wp2
  go_ret
  exact ⟨ret_bool FIN.out, rfl⟩

set_option maxHeartbeats 400000 in
theorem isBlank_any (A : Option Addr) (n cap : Nat) (zs : List Int) (w : World) (h : Bs w A n cap zs) :
    Calls Try.prog 77 #[.slice A n cap] w fun e w' => e = .returned (.bool (blankB zs)) ∧ w = w' := by
  have HI := Lib.hid (containsFunc_any A n cap zs w h)
  clear h
  generalize blankB zs = b at *
  go_enter Try.func77, Try.ntmps77
  go_wp2_with fail
  refine HI.out.mono ?_
  rintro e w1 ⟨rfl, rfl⟩
  go_wp2
  go_ret
  exact ⟨ret_bool (by simp), rfl⟩

end Go.Proofs.Ytfldgaiiniknpaa
