/- The reference's flash in memory; the walks of its calls that only tell, of step and of set. -/
import Derived.Test.YtngofnlhbhfigaaFlErase
import Derived.Test.YtngofnlhbhfigaaNorRef2
namespace Go.Proofs.Ytngofnlhbhfigaa
open Go.RowKit

structure RL where
  bf : Nat
  gb : Nat
  ge : Nat
  N : Nat
  capb : Nat
  n : Nat
  pA : Option Addr
  pc : Nat
  pk : List Int
def RL.S (L : RL) (k : Nat) : Prop := k = L.bf ∨ k = L.gb ∨ k = L.ge
def RL.pv (L : RL) : Value := .slice L.pA L.pk.length L.pc
def RL.O (L : RL) (k : Nat) : Prop := L.S k ∨ L.pv.ownBlock = some k
structure RAt (w : World) (B : Nat) (L : RL) (s : FS) : Prop where
  f : Blk w L.bf [.slice (some ⟨L.gb, 0, none⟩) L.N L.capb, .slice (some ⟨L.ge, 0, none⟩) L.n L.n, .int .i64 s.steps, .int .i64 s.left, .slice L.pA L.pk.length L.pc, .bool s.dark] 51
  b : Own w B (.slice (some ⟨L.gb, 0, none⟩) L.N L.capb) s.b
  e : Blk w L.ge (s.er.map (.int .i64)) 3
  p : Own w B L.pv L.pk
  el : s.er.length = L.n
  armed : 0 ≤ s.left → L.pk = s.pick
  lm : -1 ≤ s.left
  lx : s.left ≤ 9223372036854775807
  nN : L.N = 1024 * L.n
  n0 : 1 ≤ L.n
  n9 : L.n ≤ 256
  bB : B ≤ L.bf
  eB : B ≤ L.ge
  d1 : L.bf ≠ L.gb
  d2 : L.bf ≠ L.ge
  d3 : L.gb ≠ L.ge
  pn : ∀ g, L.pv.ownBlock = some g → ¬ L.S g
  pl : L.pk.length ≤ 1099511627776
section
variable {w w' : World} {B : Nat} {L : RL} {s : FS}
theorem RAt.keeps {S : Nat → Prop} (h : RAt w B L s) (hk : Keeps S w w') (hS : ∀ k, L.O k → ¬ S k) : RAt w' B L s :=
  ⟨hk.blk h.f (hS _ (.inl (.inl rfl))), h.b.keeps hk (fun b e => by cases e; exact hS _ (.inl (.inr (.inl rfl)))), hk.blk h.e (hS _ (.inl (.inr (.inr rfl)))), h.p.keeps hk (fun b e => hS _ (.inr e)),
    h.el, h.armed, h.lm, h.lx, h.nN, h.n0, h.n9, h.bB, h.eB, h.d1, h.d2, h.d3, h.pn, h.pl⟩
theorem RAt.later (h : RAt w B L s) (hk : Keeps None w w') : RAt w' B L s := h.keeps hk (fun _ _ h => h)
theorem RAt.drew (h : RAt w B L s) : RAt w.drew B L s := h.later (Keeps.refl None w).drew
theorem RAt.alloc (h : RAt w B L s) (o : Obj) : RAt (w.alloc o) B L s := h.later ((Keeps.refl None w).alloc o)
theorem RAt.bs (h : RAt w B L s) : Bs w (some ⟨L.gb, 0, none⟩) L.N L.capb s.b := ownBs h.b
theorem RAt.bl (h : RAt w B L s) : s.b.length = L.N := h.bs.len
theorem own_lt {A : Option Addr} {n c : Nat} {zs : List Int} (h : Own w B (.slice A n c) zs) {k : Nat} (hk : (Value.slice A n c).ownBlock = some k) : k < w.heap.size := by
  rcases h.1.2 with ⟨e0, _⟩ | ⟨g, cap', cur, e1, hb, hg, _⟩
  · cases e0; cases hk
  · cases e1
    obtain rfl : g = k := by simpa [Value.ownBlock] using hk
    exact (Array.getElem?_eq_some_iff.1 hg).1
theorem RAt.lt (h : RAt w B L s) : ∀ k, L.O k → k < w.heap.size := by
  intro k hk
  rcases hk with (rfl | rfl | rfl) | hp
  · exact h.f.lt
  · obtain ⟨cur, hb, _⟩ := h.b.row; exact hb.lt
  · exact h.e.lt
  · exact own_lt h.p hp
theorem RAt.low (h : RAt w B L s) : ∀ k, L.O k → B ≤ k := by
  intro k hk
  rcases hk with (rfl | rfl | rfl) | hp
  · exact h.bB
  · obtain ⟨cur, hb, _, _, _, _, _, h7⟩ := h.b.row; exact h7
  · exact h.eB
  · exact Nat.le_of_not_lt fun hlt => h.p.notBelow hlt hp
theorem RAt.cut (h : RAt w B L s) {i j : Nat} (hij : i + j ≤ L.N) : Bs w (some ⟨L.gb, i, none⟩) j (L.capb - i) ((s.b.drop i).take j) := by
  have := Bs.take (k := j) (h.bs.drop (k := i) (by omega)) (by omega)
  rwa [Nat.zero_add] at this
theorem RAt.head {s' : FS} (h : RAt w B L s) (hk : Keeps (fun k => k = L.bf) w w')
    (hf : Blk w' L.bf [.slice (some ⟨L.gb, 0, none⟩) L.N L.capb, .slice (some ⟨L.ge, 0, none⟩) L.n L.n, .int .i64 s'.steps, .int .i64 s'.left, .slice L.pA L.pk.length L.pc, .bool s'.dark] 51)
    (hb : s'.b = s.b) (he : s'.er = s.er) (ha : 0 ≤ s'.left → L.pk = s'.pick) (hm : -1 ≤ s'.left) (hx : s'.left ≤ 9223372036854775807) : RAt w' B L s' :=
  ⟨hf, by rw [hb]; exact h.b.keeps hk (fun b e => by cases e; exact fun e => h.d1 e.symm), by rw [he]; exact hk.blk h.e (fun e => h.d2 e.symm), h.p.keeps hk (fun b e hb => h.pn b e (.inl hb)), by rw [he]; exact h.el, ha, hm, hx, h.nN, h.n0, h.n9, h.bB, h.eB, h.d1, h.d2, h.d3, h.pn, h.pl⟩
theorem RAt.bytes {b' : List Int} (h : RAt w B L s) (hk : Keeps (fun k => k = L.gb) w w') (hb : Own w' B (.slice (some ⟨L.gb, 0, none⟩) L.N L.capb) b') : RAt w' B L { s with b := b' } :=
  ⟨hk.blk h.f h.d1, hb, hk.blk h.e (fun e => h.d3 e.symm), h.p.keeps hk (fun b e hb => h.pn b e (.inr (.inl hb))), h.el, h.armed, h.lm, h.lx, h.nN, h.n0, h.n9, h.bB, h.eB, h.d1, h.d2, h.d3, h.pn, h.pl⟩
theorem RAt.sect {er' : List Int} (h : RAt w B L s) (hk : Keeps (fun k => k = L.ge) w w') (he : Blk w' L.ge (er'.map (.int .i64)) 3) (hl : er'.length = s.er.length) : RAt w' B L { s with er := er' } :=
  ⟨hk.blk h.f h.d2, h.b.keeps hk (fun b e => by cases e; exact h.d3), he, h.p.keeps hk (fun b e hb => h.pn b e (.inr (.inr hb))), hl.trans h.el, h.armed, h.lm, h.lx, h.nN, h.n0, h.n9, h.bB, h.eB, h.d1, h.d2, h.d3, h.pn, h.pl⟩
end
/-- The reference's flash that has turned. -/
structure RTurn (w w' : World) (B : Nat) (L L' : RL) (s' : FS) : Prop where
  at_ : RAt w' B L' s'
  keeps : Keeps L.O w w'
  bf : L'.bf = L.bf
  n : L'.n = L.n
  o : ∀ k, L'.O k → L.O k ∨ w.heap.size ≤ k
theorem RTurn.self {w : World} {B : Nat} {L : RL} {s : FS} (h : RAt w B L s) : RTurn w w B L L s := ⟨h, Keeps.refl _ _, rfl, rfl, fun _ h => .inl h⟩
theorem RTurn.still {w w1 : World} {B : Nat} {L : RL} {s : FS} (h : RAt w B L s) (k : Keeps None w w1) : RTurn w w1 B L L s := ⟨h.later k, k.mono (fun _ _ h => h.elim), rfl, rfl, fun _ h => .inl h⟩
theorem RTurn.from {w w1 w' : World} {B : Nat} {L L' : RL} {s' : FS} (k : Keeps None w w1) (t : RTurn w1 w' B L L' s') : RTurn w w' B L L' s' :=
  ⟨t.at_, k.trans t.keeps (fun _ h => h.elim) (fun _ _ h => h), t.bf, t.n, fun b hb => by
    rcases t.o b hb with h | h
    · exact .inl h
    · exact .inr (Nat.le_trans k.size h)⟩

set_option maxRecDepth 100000 in
theorem rfwithin_any (a m n : Int) (hn : 0 ≤ n ∧ n ≤ 1000000000) (w : World) : Calls Try.prog 87 #[.int .i64 a, .int .i64 m, .int .i64 n] w (Same (.bool (withinB a m n)) w) := by
  have WI : Hid (withinB a m n = (decide (0 ≤ a) && decide (0 ≤ m) && decide (a ≤ n) && decide (m ≤ n - a))) := by
    show withinB a m n = _
    unfold withinB
    by_cases q1 : 0 ≤ a <;> by_cases q2 : 0 ≤ m <;> by_cases q3 : a ≤ n <;> by_cases q4 : m ≤ n - a <;> simp [q1, q2, q3, q4]
  by_cases q1 : 0 ≤ a
  · have e1 : decide (0 ≤ a) = true := decide_eq_true q1
    by_cases q2 : 0 ≤ m
    · have e2 : decide (0 ≤ m) = true := decide_eq_true q2
      by_cases q3 : a ≤ n
      · have e3 : decide (a ≤ n) = true := decide_eq_true q3
        rw [e1, e2, e3] at WI
        have hn1 : -9223372036854775808 ≤ n - a := by omega
        have hn2 : n - a ≤ 9223372036854775807 := by omega
        go_enter Try.func87, Try.ntmps87
        go_wp2
        go_ret
        exact ⟨ret_bool (by rw [WI.out]; simp), rfl⟩
      · have e3 : decide (a ≤ n) = false := decide_eq_false q3
        rw [e1, e2, e3] at WI
        go_enter Try.func87, Try.ntmps87
        go_wp2
        go_ret
        exact ⟨ret_bool (by rw [WI.out]; simp), rfl⟩
    · have e2 : decide (0 ≤ m) = false := decide_eq_false q2
      rw [e1, e2] at WI
      go_enter Try.func87, Try.ntmps87
      go_wp2
      go_ret
      exact ⟨ret_bool (by rw [WI.out]; simp), rfl⟩
  · have e1 : decide (0 ≤ a) = false := decide_eq_false q1
    rw [e1] at WI
    go_enter Try.func87, Try.ntmps87
    go_wp2
    go_ret
    exact ⟨ret_bool (by rw [WI.out]; simp), rfl⟩

set_option maxRecDepth 100000 in
theorem rfread_any (B : Nat) (L : RL) (s : FS) (q : Nat) (a m : Int) (w : World) (h : RAt w B L s) (hq : L.bf = q) : Calls Try.prog 78 #[.pointer (some ⟨q, 0, none⟩), .int .i64 a, .int .i64 m] w (ReadTold w (s.readF a m)) := by
  have hbl := h.bl
  have hrf : s.readF a m = if s.dark = true then ([], 5) else if withinB a m L.N = true then ((s.b.drop a.toNat).take m.toNat, 0) else ([], 2) := by
    unfold FS.readF; rw [hbl]
  clear hbl
  obtain ⟨bf, gb, ge, N, capb, n, pA, pc, pk⟩ := L
  simp only [] at hq
  subst hq
  have c0 := h.f.cellD 0 _ rfl
  have c1 := h.f.cellD 1 _ rfl
  have c2 := h.f.cellD 2 _ rfl
  have c3 := h.f.cellD 3 _ rfl
  have c4 := h.f.cellD 4 _ rfl
  have c5 := h.f.cellD 5 _ rfl
  have hcap := h.bs.le
  have hcmx := h.bs.max
  have hN := h.nN
  have hn0 := h.n0
  have hn9 := h.n9
  have H := Lib.hid h
  simp only [] at c0 c1 c2 c3 c4 c5 hcap hcmx hN hn0 hn9
  have hNb : N ≤ 262144 := by omega
  have hN1 : 1024 ≤ N := by omega
  have HN := Lib.hid hN
  clear h hN
  have WI := Lib.hid (rfwithin_any a m N (by omega))
  cases hd : s.dark with
  | true =>
    rw [hd, if_pos rfl] at hrf
    rw [hrf]
    clear hrf
    rw [hd] at c5
    clear hd
    go_enter Try.func78, Try.ntmps78
    go_wp2
    go_ret2
    exact ⟨_, rfl, Own.nil _ _, Keeps.refl _ _⟩
  | false =>
    rw [hd, if_neg (by decide)] at hrf
    rw [hd] at c5
    simp only [] at hrf
    cases hw : withinB a m N with
    | false =>
      rw [hw] at WI hrf
      rw [if_neg (by decide)] at hrf
      rw [hrf]
      clear hrf hw hd
      go_enter Try.func78, Try.ntmps78
      go_wp2_with fail
      refine (WI.out _).mono ?_
      rintro e w' ⟨rfl, rfl⟩
      go_wp2
      go_ret2
      exact ⟨_, rfl, Own.nil _ _, Keeps.refl _ _⟩
    | true =>
      rw [hw] at WI hrf
      rw [if_pos rfl] at hrf
      obtain ⟨i, j, rfl, rfl, hij⟩ := within_nat hw
      rw [hrf]
      simp only [Int.toNat_natCast]
      clear hrf hw hd
      have hsub : i + j - i = j := by omega
      by_cases hc : capb = i
      · obtain rfl : j = 0 := by omega
        subst hc
        go_enter Try.func78, Try.ntmps78
        go_wp2_with fail
        refine (WI.out _).mono ?_
        rintro e w' ⟨rfl, rfl⟩
        go_wp2_with (at_builtin; refine Hid.out ?_)
        refine Lib.hid ?_
        refine wpList_append_bs (Own.nil _ w.heap.size) (Bs.empty w ⟨gb, 0, none⟩ 0 (by omega)) (by simp) (Nat.le_refl _) rfl rfl rfl rfl rfl ?_
        intro v3 w3 ho3 hk3
        rw [List.nil_append] at ho3
        have O3 := Lib.hid ho3
        have K3 : Hid (Keeps None w w3) := hk3.mono (fun i hi e => by simp [Value.ownBlock] at e)
        clear ho3 hk3
        go_wp2
        go_ret2
        exact ⟨_, rfl, O3.out, K3.out⟩
      · have DB := Lib.hid (H.out.cut (i := i) (j := j) hij)
        go_enter Try.func78, Try.ntmps78
        go_wp2_with fail
        refine (WI.out _).mono ?_
        rintro e w' ⟨rfl, rfl⟩
        go_wp2_with (at_builtin; refine Hid.out ?_)
        refine Lib.hid ?_
        rw [hsub]
        refine wpList_append_bs (Own.nil _ w.heap.size) DB.out (by simp; omega) (Nat.le_refl _) rfl rfl rfl rfl rfl ?_
        intro v3 w3 ho3 hk3
        rw [List.nil_append] at ho3
        have O3 := Lib.hid ho3
        have K3 : Hid (Keeps None w w3) := hk3.mono (fun i hi e => by simp [Value.ownBlock] at e)
        clear ho3 hk3
        go_wp2
        go_ret2
        exact ⟨_, rfl, O3.out, K3.out⟩

/-- What the call that counts a step leaves. -/
def RBroke (w : World) (B : Nat) (L : RL) (s : FS) (e : Ending) (w' : World) : Prop := e = .returned (.bool (decide (s.left = 0))) ∧ Keeps (fun k => k = L.bf) w w' ∧ RAt w' B L s.stepped

set_option maxRecDepth 100000 in
theorem rfstep_any (B : Nat) (L : RL) (s : FS) (q : Nat) (w : World) (h : RAt w B L s) (hq : L.bf = q) (hd : s.dark = false) (hst : 0 ≤ s.steps ∧ s.steps ≤ 1000000000000) : Calls Try.prog 97 #[.pointer (some ⟨q, 0, none⟩)] w (RBroke w B L s) := by
  obtain ⟨st1, st2⟩ := hst
  have lm := h.lm
  have lx := h.lx
  have ha := h.armed
  by_cases q1 : s.left < 0
  · have e1 : decide (s.left < 0) = true := decide_eq_true q1
    have ES : Hid (s.stepped = { s with steps := s.steps + 1 }) := if_pos q1
    have EL : Hid (decide (s.left = 0) = false) := decide_eq_false (by omega)
    obtain ⟨bf, gb, ge, N, capb, n, pA, pc, pk⟩ := L
    simp only [] at hq
    subst hq
    have c0 := h.f.cellD 0 _ rfl
    have c1 := h.f.cellD 1 _ rfl
    have c2 := h.f.cellD 2 _ rfl
    have c3 := h.f.cellD 3 _ rfl
    have c4 := h.f.cellD 4 _ rfl
    have c5 := h.f.cellD 5 _ rfl
    have hcap := h.bs.le
    have hcmx := h.bs.max
    have hN := h.nN
    have hn0 := h.n0
    have hn9 := h.n9
    have H := Lib.hid h
    simp only [] at c0 c1 c2 c3 c4 c5 hcap hcmx hN hn0 hn9
    have hNb : N ≤ 262144 := by omega
    have hN1 : 1024 ≤ N := by omega
    have HN := Lib.hid hN
    clear h hN
    have z0 := H.out.f.frozen 0
    have z1 := H.out.f.frozen 1
    have z2 := H.out.f.frozen 2
    have z3 := H.out.f.frozen 3
    have z4 := H.out.f.frozen 4
    have z5 := H.out.f.frozen 5
    simp only [] at z0 z1 z2 z3 z4 z5
    simp only [] at ha
    have HA := Lib.hid ha
    clear ha
    go_enter Try.func97, Try.ntmps97
    go_wp2
    go_ret
    have hk : Keeps (fun k => k = bf) w (w.setCell ⟨bf, 2, none⟩ (.int .i64 (s.steps + 1))) := (Keeps.self bf w).put 2 _
    refine ⟨ret_bool EL.out.symm, hk, ?_⟩
    rw [ES.out]
    exact H.out.head hk (H.out.f.set 2 _) rfl rfl HA.out lm lx
  · have a2 := ha (by omega)
    have e1 : decide (s.left < 0) = false := decide_eq_false q1
    by_cases q2 : s.left = 0
    · have ES : Hid (s.stepped = { s with steps := s.steps + 1, left := -1, pick := [], dark := true }) := by
        show s.stepped = _
        unfold FS.stepped; rw [if_neg q1, if_pos q2]
      have EL : Hid (decide (s.left = 0) = true) := decide_eq_true q2
      obtain ⟨bf, gb, ge, N, capb, n, pA, pc, pk⟩ := L
      simp only [] at hq
      subst hq
      have c0 := h.f.cellD 0 _ rfl
      have c1 := h.f.cellD 1 _ rfl
      have c2 := h.f.cellD 2 _ rfl
      have c3 := h.f.cellD 3 _ rfl
      have c4 := h.f.cellD 4 _ rfl
      have c5 := h.f.cellD 5 _ rfl
      have hcap := h.bs.le
      have hcmx := h.bs.max
      have hN := h.nN
      have hn0 := h.n0
      have hn9 := h.n9
      have H := Lib.hid h
      simp only [] at c0 c1 c2 c3 c4 c5 hcap hcmx hN hn0 hn9
      have hNb : N ≤ 262144 := by omega
      have hN1 : 1024 ≤ N := by omega
      have HN := Lib.hid hN
      clear h hN
      have z0 := H.out.f.frozen 0
      have z1 := H.out.f.frozen 1
      have z2 := H.out.f.frozen 2
      have z3 := H.out.f.frozen 3
      have z4 := H.out.f.frozen 4
      have z5 := H.out.f.frozen 5
      simp only [] at z0 z1 z2 z3 z4 z5
      rw [q2] at c3
      clear a2 q1 q2 e1 ha
      go_enter Try.func97, Try.ntmps97
      go_wp2
      go_ret
      have hk : Keeps (fun k => k = bf) w (((w.setCell ⟨bf, 2, none⟩ (.int .i64 (s.steps + 1))).setCell ⟨bf, 3, none⟩ (.int .i64 (-1))).setCell ⟨bf, 5, none⟩ (.bool true)) := (((Keeps.self bf w).put 2 _).put 3 _).put 5 _
      refine ⟨ret_bool EL.out.symm, hk, ?_⟩
      rw [ES.out]
      exact H.out.head hk (((H.out.f.set 2 _).set 3 _).set 5 _) rfl rfl (fun h => absurd h (show ¬ (0 : Int) ≤ -1 by decide)) (show (-1 : Int) ≤ -1 by decide) (show (-1 : Int) ≤ 9223372036854775807 by decide)
    · have e2 : decide (s.left - 1 < 0) = false := decide_eq_false (by omega)
      have e3 : decide (s.left < 1) = false := decide_eq_false (by omega)
      have e4 : decide (s.left ≤ 0) = false := decide_eq_false (by omega)
      have ES : Hid (s.stepped = { s with steps := s.steps + 1, left := s.left - 1 }) := by
        show s.stepped = _
        unfold FS.stepped; rw [if_neg q1, if_neg q2]
      have EL : Hid (decide (s.left = 0) = false) := decide_eq_false q2
      have lp : 0 < s.left := by omega
      obtain ⟨bf, gb, ge, N, capb, n, pA, pc, pk⟩ := L
      simp only [] at hq
      subst hq
      have c0 := h.f.cellD 0 _ rfl
      have c1 := h.f.cellD 1 _ rfl
      have c2 := h.f.cellD 2 _ rfl
      have c3 := h.f.cellD 3 _ rfl
      have c4 := h.f.cellD 4 _ rfl
      have c5 := h.f.cellD 5 _ rfl
      have hcap := h.bs.le
      have hcmx := h.bs.max
      have hN := h.nN
      have hn0 := h.n0
      have hn9 := h.n9
      have H := Lib.hid h
      simp only [] at c0 c1 c2 c3 c4 c5 hcap hcmx hN hn0 hn9
      have hNb : N ≤ 262144 := by omega
      have hN1 : 1024 ≤ N := by omega
      have HN := Lib.hid hN
      clear h hN
      have z0 := H.out.f.frozen 0
      have z1 := H.out.f.frozen 1
      have z2 := H.out.f.frozen 2
      have z3 := H.out.f.frozen 3
      have z4 := H.out.f.frozen 4
      have z5 := H.out.f.frozen 5
      simp only [] at z0 z1 z2 z3 z4 z5
      simp only [] at a2
      have A2 := Lib.hid a2
      rw [hd] at c5
      have HD := Lib.hid hd
      clear a2 q1 q2 ha hd
      go_enter Try.func97, Try.ntmps97
      go_wp2
      go_ret
      have hk : Keeps (fun k => k = bf) w ((w.setCell ⟨bf, 2, none⟩ (.int .i64 (s.steps + 1))).setCell ⟨bf, 3, none⟩ (.int .i64 (s.left - 1))) := ((Keeps.self bf w).put 2 _).put 3 _
      refine ⟨ret_bool EL.out.symm, hk, ?_⟩
      rw [ES.out]
      exact H.out.head hk ((H.out.f.set 2 _).set 3 _) rfl rfl (fun _ => A2.out) (by show -1 ≤ s.left - 1; omega) (by show s.left - 1 ≤ _; omega)
theorem ext_getD {L M : List Int} (hl : L.length = M.length) (h : ∀ k, k < L.length → L.getD k 0 = M.getD k 0) : L = M := by
  refine List.ext_getElem hl fun k h1 h2 => ?_
  have := h k h1
  rwa [getD_get 0 h1, getD_get 0 h2] at this
theorem splice_snoc (L zs : List Int) (i j : Nat) (hj : j < zs.length) (h : i + zs.length ≤ L.length) : (splice L i (zs.take j)).set (i + j) (zs.getD j 0) = splice L i (zs.take (j + 1)) := by
  have hl : (zs.take j).length = j := by rw [List.length_take]; omega
  have hl1 : (zs.take (j + 1)).length = j + 1 := by rw [List.length_take]; omega
  have e1 : ((splice L i (zs.take j)).set (i + j) (zs.getD j 0)).length = L.length := by rw [List.length_set, splice_len _ _ _ (by omega)]
  have e2 : (splice L i (zs.take (j + 1))).length = L.length := splice_len _ _ _ (by omega)
  refine ext_getD (by rw [e1, e2]) fun k hk => ?_
  rw [splice_getD _ _ _ (by omega)]
  by_cases hkj : k = i + j
  · subst hkj
    rw [getD_set_self _ _ _ (by rw [splice_len _ _ _ (by omega)]; omega), if_pos ⟨by omega, by omega⟩]
    have : i + j - i = j := by omega
    rw [this]; simp [List.getD]
  · have : ((splice L i (zs.take j)).set (i + j) (zs.getD j 0)).getD k 0 = (splice L i (zs.take j)).getD k 0 := by
      simp [List.getD, List.getElem?_set, show ¬ i + j = k from fun e => hkj e.symm]
    rw [this, splice_getD _ _ _ (by omega)]
    by_cases h1 : i ≤ k ∧ k < i + j
    · rw [if_pos ⟨h1.1, by omega⟩, if_pos ⟨h1.1, by omega⟩]
      simp [List.getD, List.getElem?_take, show k - i < j by omega, show k - i < j + 1 by omega]
    · rw [if_neg (by omega), if_neg (by omega)]

set_option maxRecDepth 100000 in
set_option maxHeartbeats 800000 in
theorem rfset_any (B : Nat) (L : RL) (s : FS) (q i : Nat) (A : Option Addr) (m c : Nat) (zs : List Int) (w : World) (h : RAt w B L s) (hq : L.bf = q) (hb : Bs w A m c zs) (hi : i + m ≤ L.N) (hA : ∀ b off, 0 < m → A = some ⟨b, off, none⟩ → b ≠ L.gb) :
    Calls Try.prog 98 #[.pointer (some ⟨q, 0, none⟩), .int .i64 i, .slice A m c] w fun e w' => e = .returned (.tuple #[]) ∧ RAt w' B L { s with b := splice s.b i zs } ∧ Keeps (fun k => k = L.gb) w w' := by
  have hle := hb.le
  have hmx := hb.max
  have HB := Lib.hid hb
  have HA := Lib.hid hA
  have HML := Lib.hid hb.len
  have HSN := Lib.hid (fun j hj => splice_snoc s.b zs i j hj (by rw [h.bl, hb.len]; exact hi))
  have HZ0 : Hid (splice s.b i (zs.take 0) = s.b) := by show _ = _; rw [List.take_zero, splice_nil]
  have HSL := Lib.hid (fun j => show (splice s.b i (zs.take j)).length = L.N from by rw [splice_len _ _ _ (by rw [List.length_take, h.bl, hb.len]; omega)]; exact h.bl)
  clear hb hA
  obtain ⟨bf, gb, ge, N, capb, n, pA, pc, pk⟩ := L
  simp only [] at hq
  subst hq
  have c0 := h.f.cellD 0 _ rfl
  have c1 := h.f.cellD 1 _ rfl
  have c2 := h.f.cellD 2 _ rfl
  have c3 := h.f.cellD 3 _ rfl
  have c4 := h.f.cellD 4 _ rfl
  have c5 := h.f.cellD 5 _ rfl
  have hcap := h.bs.le
  have hcmx := h.bs.max
  have hN := h.nN
  have hn0 := h.n0
  have hn9 := h.n9
  have H := Lib.hid h
  simp only [] at c0 c1 c2 c3 c4 c5 hcap hcmx hN hn0 hn9
  have hNb : N ≤ 262144 := by omega
  have hN1 : 1024 ≤ N := by omega
  have HN := Lib.hid hN
  clear h hN
  simp only [] at hi HA HSL
  go_enter Try.func98, Try.ntmps98
  go_wp2
  go_loopw [6] (fun jv wr => ∃ j : Nat, j ≤ m ∧ jv = .int .i64 j ∧ Own wr B (.slice (some ⟨gb, 0, none⟩) N capb) (splice s.b i (zs.take j)) ∧ Keeps (fun k => k = gb) w wr) (fun jv _ => m - (intOf jv).toNat)
  case atStart => exact ⟨0, Nat.zero_le _, rfl, by rw [HZ0.out]; exact H.out.b, Keeps.refl _ _⟩
  case round =>
    obtain ⟨j, hj, rfl, hO, hK⟩ := hrel
    obtain ⟨wv, rfl⟩ : ∃ x, x = wr := ⟨_, rfl⟩
    have HO := Lib.hid hO
    have HK := Lib.hid hK
    clear hO hK
    by_cases hlt : j < m
    · obtain ⟨bb, bo, z, rfl, hz, za, zb, hc⟩ := HB.out.get hlt
      have hbb : bb < w.heap.size := by obtain ⟨b, off, e, hb, _⟩ := HB.out.at_ (by omega); cases e; exact hb
      have hcw := (HK.out.cell (p := ⟨bb, bo + j, none⟩) hbb (HA.out bb bo (by omega) rfl)).trans hc
      have y0 := (HK.out.blk H.out.f H.out.d1).cellD 0 _ rfl
      simp only [] at y0
      obtain ⟨p, hp⟩ : ∃ p, i + j = p := ⟨_, rfl⟩
      have w1 : IntKind.i64.wrap ((i : Int) + j) = p := by rw [show (i : Int) + j = (p : Int) by omega]; exact wrap_nat _ (by omega)
      have hpN : p < N := by omega
      obtain ⟨cp, fp⟩ := HO.out.cellAt hpN
      generalize (splice s.b i (zs.take j)).getD p 0 = z9 at cp
      have hst := HO.out.store rfl p z ⟨za, zb⟩ (by rw [HSL.out]; exact hpN)
      have HS2 := Lib.hid (HSN.out j (by rw [HML.out]; exact hlt))
      rw [hp, hz] at HS2
      rw [HS2.out] at hst
      have HST := Lib.hid hst
      clear hst hz hc
      go_wp2
      obtain ⟨mS, mh⟩ : ∃ S : World → Prop, ∀ w', S w' ↔ (w'.cell? ⟨bf, 0, none⟩ = some (.slice (some ⟨gb, 0, none⟩) N capb) ∧ w'.cell? ⟨bb, bo + j, none⟩ = some (.int .u8 z)) := ⟨_, fun _ => Iff.rfl⟩
      have mk0 : ∀ x : Memb mS, x.at_.cell? ⟨bf, 0, none⟩ = some (.slice (some ⟨gb, 0, none⟩) N capb) := fun x => ((mh _).1 x.is).1
      have mk1 : ∀ x : Memb mS, x.at_.cell? ⟨bb, bo + j, none⟩ = some (.int .u8 z) := fun x => ((mh _).1 x.is).2
      have mn : Nonempty (Memb mS) := ⟨⟨(wv).drew, (mh _).2 ⟨y0, hcw⟩⟩⟩
      have mH := Lib.hid mh
      clear mh
      refine wp_region_mix [12] (InS mS) (by kernel_rfl) (by kernel_rfl) (InS.mk ((mH.out _).2 ⟨y0, hcw⟩)) ?_
      refine wpMix_seg 12 (by kernel_rfl) (by decide) ?_
      simp only [List.take_succ_cons, List.take_zero, List.drop_succ_cons, List.drop_zero]
      repeat (go_big_quiet_step (fail))
      refine wpQuiet_nil ?_
      refine wpMix_eff (by kernel_rfl) ?_
      go_wp2
      refine MixK.last (by kernel_rfl) ?_
      refine wpMix_nil ?_
      clear mk0 mk1 mn mH
      go_wp2
      go_roundw
      case rel => exact ⟨j + 1, hlt, by go_num, HST.out.drew, (HK.out.put _ _).drew⟩
      case measure => simp [intOf]; omega
    · obtain rfl : j = m := by omega
      have hfin := HO.out
      rw [List.take_of_length_le (by rw [HML.out]; exact Nat.le_refl _)] at hfin
      have HFIN := Lib.hid hfin
      clear hfin
      go_wp2
      go_end0
      exact ⟨rfl, H.out.bytes HK.out HFIN.out, HK.out⟩
end Go.Proofs.Ytngofnlhbhfigaa
