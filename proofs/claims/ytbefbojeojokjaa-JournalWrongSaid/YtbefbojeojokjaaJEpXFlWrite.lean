
/- The walks of the calls that change a flash: Boot, Arm, Spoil, broken. -/
import Derived.Test.YtbefbojeojokjaaJEpXFlMem
namespace Go.Proofs.Ytbefbojeojokjaa
open Go.RowKit

/-- A flash that has turned. -/
structure Turn (w w' : World) (B : Nat) (L L' : FL) (s' : FS) : Prop where
  at_ : FAt w' B L' s'
  keeps : Keeps L.O w w'
  bf : L'.bf = L.bf
  n : L'.n = L.n
  o : ∀ k, L'.O k → L.O k ∨ w.heap.size ≤ k
theorem Turn.self {w : World} {B : Nat} {L : FL} {s : FS} (h : FAt w B L s) : Turn w w B L L s := ⟨h, Keeps.refl _ _, rfl, rfl, fun _ h => .inl h⟩
theorem FAt.head {w w' : World} {B : Nat} {L : FL} {s s' : FS} {af' : Int} (h : FAt w B L s) (hk : Keeps (fun k => k = L.bf) w w')
    (hf : Blk w' L.bf [.slice (some ⟨L.gb, 0, none⟩) L.N L.capb, .slice (some ⟨L.ge, 0, none⟩) L.n L.n, .int .i64 s'.steps, .bool s'.dark, .bool (decide (0 ≤ s'.left)), .int .i64 af', .slice L.pA L.pk.length L.pc] 85)
    (hb : s'.b = s.b) (he : s'.er = s.er) (ha : 0 ≤ s'.left → af' = s'.left ∧ L.pk = s'.pick) (hm : -1 ≤ s'.left) (hx : s'.left ≤ 9223372036854775807) : FAt w' B { L with af := af' } s' :=
  ⟨hf, by rw [hb]; exact h.b.keeps hk (fun b e => by cases e; exact fun e => h.d1 e.symm), by rw [he]; exact hk.blk h.e (fun e => h.d2 e.symm), h.p.keeps hk (fun b e hb => h.pn b e (.inl hb)), by rw [he]; exact h.el, ha, hm, hx, h.nN, h.n0, h.n9, h.bB, h.eB, h.d1, h.d2, h.d3, h.pn⟩
theorem FAt.bytes {w w' : World} {B : Nat} {L : FL} {s : FS} {b' : List Int} (h : FAt w B L s) (hk : Keeps (fun k => k = L.gb) w w') (hb : Own w' B (.slice (some ⟨L.gb, 0, none⟩) L.N L.capb) b') : FAt w' B L { s with b := b' } :=
  ⟨hk.blk h.f h.d1, hb, hk.blk h.e (fun e => h.d3 e.symm), h.p.keeps hk (fun b e hb => h.pn b e (.inr (.inl hb))), h.el, h.armed, h.lm, h.lx, h.nN, h.n0, h.n9, h.bB, h.eB, h.d1, h.d2, h.d3, h.pn⟩
theorem FAt.sect {w w' : World} {B : Nat} {L : FL} {s : FS} {er' : List Int} (h : FAt w B L s) (hk : Keeps (fun k => k = L.ge) w w') (he : Blk w' L.ge (er'.map (.int .i64)) 3) (hl : er'.length = s.er.length) : FAt w' B L { s with er := er' } :=
  ⟨hk.blk h.f h.d2, h.b.keeps hk (fun b e => by cases e; exact h.d3), he, h.p.keeps hk (fun b e hb => h.pn b e (.inr (.inr hb))), hl.trans h.el, h.armed, h.lm, h.lx, h.nN, h.n0, h.n9, h.bB, h.eB, h.d1, h.d2, h.d3, h.pn⟩
theorem FAt.frz {w : World} {B : Nat} {L : FL} {s : FS} (h : FAt w B L s) (i : Nat) : w.frozen? ⟨L.bf, i, none⟩ = false := h.f.frozen i
/-- Only the flash's own block has turned. -/
theorem Turn.ofHead {w w' : World} {B : Nat} {L : FL} {s' : FS} {af' : Int} (hk : Keeps (fun k => k = L.bf) w w') (h : FAt w' B { L with af := af' } s') : Turn w w' B L { L with af := af' } s' :=
  ⟨h, hk.mono (fun i _ e => .inl (.inl e)), rfl, rfl, fun _ h => .inl h⟩


set_option maxRecDepth 100000 in
theorem fboot_any (B : Nat) (L : FL) (s : FS) (w : World) (h : FAt w B L s) : Calls Try.prog 23 #[L.p] w fun e w' => e = .returned (.tuple #[]) ∧ ∃ L', Turn w w' B L L' s.bootF := by
  obtain ⟨bf, gb, ge, N, capb, n, af, pA, pc, pk⟩ := L
  have c0 := h.f.cellD 0 _ rfl
  have c1 := h.f.cellD 1 _ rfl
  have c2 := h.f.cellD 2 _ rfl
  have c3 := h.f.cellD 3 _ rfl
  have c4 := h.f.cellD 4 _ rfl
  have c5 := h.f.cellD 5 _ rfl
  have c6 := h.f.cellD 6 _ rfl
  have hcap := h.bs.le
  have hcmx := h.bs.max
  have hN := h.nN
  have hn0 := h.n0
  have hn9 := h.n9
  have H := Lib.hid h
  simp only [] at c0 c1 c2 c3 c4 c5 c6 hcap hcmx hN hn0 hn9
  have hNb : N ≤ 262144 := by omega
  have hN1 : 1024 ≤ N := by omega
  have HN := Lib.hid hN
  clear h hN
  simp only [FL.p, FL.pv]
  have z0 := H.out.frz 0
  have z1 := H.out.frz 1
  have z2 := H.out.frz 2
  have z3 := H.out.frz 3
  have z4 := H.out.frz 4
  have z5 := H.out.frz 5
  have z6 := H.out.frz 6
  simp only [] at z0 z1 z2 z3 z4 z5 z6
  go_enter Try.func23, Try.ntmps23
  go_wp2
  go_end0
  have hk : Keeps (fun k => k = bf) w ((w.setCell ⟨bf, 4, none⟩ (.bool false)).setCell ⟨bf, 3, none⟩ (.bool false)) := ((Keeps.self bf w).put 4 _).put 3 _
  exact ⟨rfl, _, Turn.ofHead (L := ⟨bf, gb, ge, N, capb, n, af, pA, pc, pk⟩) hk (H.out.head hk ((H.out.f.set 4 _).set 3 _) rfl rfl (fun h => absurd h (show ¬ (0 : Int) ≤ -1 by decide)) (show (-1 : Int) ≤ -1 by decide) (show (-1 : Int) ≤ 9223372036854775807 by decide))⟩

/-- What the call that counts a step leaves. -/
def Broke (w : World) (B : Nat) (L : FL) (s : FS) (e : Ending) (w' : World) : Prop := e = .returned (.bool (decide (s.left = 0))) ∧ Keeps (fun k => k = L.bf) w w' ∧ ∃ af', FAt w' B { L with af := af' } s.stepped

set_option maxRecDepth 100000 in
theorem fbroken_any (B : Nat) (L : FL) (s : FS) (w : World) (h : FAt w B L s) (hst : 0 ≤ s.steps ∧ s.steps ≤ 1000000000000) : Calls Try.prog 106 #[L.p] w (Broke w B L s) := by
  obtain ⟨st1, st2⟩ := hst
  have lm := h.lm
  have lx := h.lx
  have ha := h.armed
  by_cases q1 : s.left < 0
  · have e1 : decide (0 ≤ s.left) = false := decide_eq_false (by omega)
    have ES : Hid (s.stepped = { s with steps := s.steps + 1 }) := if_pos q1
    have EL : Hid (decide (s.left = 0) = false) := decide_eq_false (by omega)
    obtain ⟨bf, gb, ge, N, capb, n, af, pA, pc, pk⟩ := L
    have c0 := h.f.cellD 0 _ rfl
    have c1 := h.f.cellD 1 _ rfl
    have c2 := h.f.cellD 2 _ rfl
    have c3 := h.f.cellD 3 _ rfl
    have c4 := h.f.cellD 4 _ rfl
    have c5 := h.f.cellD 5 _ rfl
    have c6 := h.f.cellD 6 _ rfl
    have hcap := h.bs.le
    have hcmx := h.bs.max
    have hN := h.nN
    have hn0 := h.n0
    have hn9 := h.n9
    have H := Lib.hid h
    simp only [] at c0 c1 c2 c3 c4 c5 c6 hcap hcmx hN hn0 hn9
    have hNb : N ≤ 262144 := by omega
    have hN1 : 1024 ≤ N := by omega
    have HN := Lib.hid hN
    clear h hN
    simp only [FL.p, FL.pv]
    have z0 := H.out.frz 0
    have z1 := H.out.frz 1
    have z2 := H.out.frz 2
    have z3 := H.out.frz 3
    have z4 := H.out.frz 4
    have z5 := H.out.frz 5
    have z6 := H.out.frz 6
    simp only [] at z0 z1 z2 z3 z4 z5 z6
    rw [e1] at c4
    simp only [] at ha
    have HA := Lib.hid ha
    have Q1 := Lib.hid q1
    clear ha q1 e1
    go_enter Try.func106, Try.ntmps106
    go_wp2
    go_ret
    have hk : Keeps (fun k => k = bf) w (w.setCell ⟨bf, 2, none⟩ (.int .i64 (s.steps + 1))) := (Keeps.self bf w).put 2 _
    refine ⟨ret_bool EL.out.symm, hk, af, ?_⟩
    rw [ES.out]
    exact H.out.head hk (H.out.f.set 2 _) rfl rfl HA.out lm lx
  · obtain ⟨a1, a2⟩ := ha (by omega)
    by_cases q2 : s.left = 0
    · have e1 : decide (0 ≤ s.left) = true := decide_eq_true (by omega)
      have ES : Hid (s.stepped = { s with steps := s.steps + 1, left := -1, pick := [], dark := true }) := by
        show s.stepped = _
        unfold FS.stepped; rw [if_neg q1, if_pos q2]
      have EL : Hid (decide (s.left = 0) = true) := decide_eq_true q2
      obtain ⟨bf, gb, ge, N, capb, n, af, pA, pc, pk⟩ := L
      have c0 := h.f.cellD 0 _ rfl
      have c1 := h.f.cellD 1 _ rfl
      have c2 := h.f.cellD 2 _ rfl
      have c3 := h.f.cellD 3 _ rfl
      have c4 := h.f.cellD 4 _ rfl
      have c5 := h.f.cellD 5 _ rfl
      have c6 := h.f.cellD 6 _ rfl
      have hcap := h.bs.le
      have hcmx := h.bs.max
      have hN := h.nN
      have hn0 := h.n0
      have hn9 := h.n9
      have H := Lib.hid h
      simp only [] at c0 c1 c2 c3 c4 c5 c6 hcap hcmx hN hn0 hn9
      have hNb : N ≤ 262144 := by omega
      have hN1 : 1024 ≤ N := by omega
      have HN := Lib.hid hN
      clear h hN
      simp only [FL.p, FL.pv]
      have z0 := H.out.frz 0
      have z1 := H.out.frz 1
      have z2 := H.out.frz 2
      have z3 := H.out.frz 3
      have z4 := H.out.frz 4
      have z5 := H.out.frz 5
      have z6 := H.out.frz 6
      simp only [] at z0 z1 z2 z3 z4 z5 z6
      simp only [] at a1 a2
      rw [e1] at c4
      rw [a1, q2] at c5
      clear a1 a2 q1 q2 e1 ha
      go_enter Try.func106, Try.ntmps106
      go_wp2
      go_ret
      have hk : Keeps (fun k => k = bf) w (((w.setCell ⟨bf, 2, none⟩ (.int .i64 (s.steps + 1))).setCell ⟨bf, 4, none⟩ (.bool false)).setCell ⟨bf, 3, none⟩ (.bool true)) := (((Keeps.self bf w).put 2 _).put 4 _).put 3 _
      refine ⟨ret_bool EL.out.symm, hk, af, ?_⟩
      rw [ES.out]
      exact H.out.head hk (((H.out.f.set 2 _).set 4 _).set 3 _) rfl rfl (fun h => absurd h (show ¬ (0 : Int) ≤ -1 by decide)) (show (-1 : Int) ≤ -1 by decide) (show (-1 : Int) ≤ 9223372036854775807 by decide)
    · have e1 : decide (0 ≤ s.left) = true := decide_eq_true (by omega)
      have e2 : decide (0 < s.left) = true := decide_eq_true (by omega)
      have ES : Hid (s.stepped = { s with steps := s.steps + 1, left := s.left - 1 }) := by
        show s.stepped = _
        unfold FS.stepped; rw [if_neg q1, if_neg q2]
      have EL : Hid (decide (s.left = 0) = false) := decide_eq_false q2
      have lp : 0 < s.left := by omega
      have E3 : Hid (decide (0 ≤ s.left) = decide (0 ≤ s.left - 1)) := by show decide _ = decide _; rw [e1]; exact (decide_eq_true (by omega)).symm
      obtain ⟨bf, gb, ge, N, capb, n, af, pA, pc, pk⟩ := L
      have c0 := h.f.cellD 0 _ rfl
      have c1 := h.f.cellD 1 _ rfl
      have c2 := h.f.cellD 2 _ rfl
      have c3 := h.f.cellD 3 _ rfl
      have c4 := h.f.cellD 4 _ rfl
      have c5 := h.f.cellD 5 _ rfl
      have c6 := h.f.cellD 6 _ rfl
      have hcap := h.bs.le
      have hcmx := h.bs.max
      have hN := h.nN
      have hn0 := h.n0
      have hn9 := h.n9
      have H := Lib.hid h
      simp only [] at c0 c1 c2 c3 c4 c5 c6 hcap hcmx hN hn0 hn9
      have hNb : N ≤ 262144 := by omega
      have hN1 : 1024 ≤ N := by omega
      have HN := Lib.hid hN
      clear h hN
      simp only [FL.p, FL.pv]
      have z0 := H.out.frz 0
      have z1 := H.out.frz 1
      have z2 := H.out.frz 2
      have z3 := H.out.frz 3
      have z4 := H.out.frz 4
      have z5 := H.out.frz 5
      have z6 := H.out.frz 6
      simp only [] at z0 z1 z2 z3 z4 z5 z6
      simp only [] at a1 a2
      rw [e1] at c4
      rw [a1] at c5
      have A2 := Lib.hid a2
      clear a1 a2 q1 q2 ha
      go_enter Try.func106, Try.ntmps106
      go_wp2
      go_ret
      have hk : Keeps (fun k => k = bf) w ((w.setCell ⟨bf, 2, none⟩ (.int .i64 (s.steps + 1))).setCell ⟨bf, 5, none⟩ (.int .i64 (s.left - 1))) := ((Keeps.self bf w).put 2 _).put 5 _
      refine ⟨ret_bool EL.out.symm, hk, s.left - 1, ?_⟩
      rw [ES.out]
      have hb := (H.out.f.set 2 (.int .i64 (s.steps + 1))).set 5 (.int .i64 (s.left - 1))
      rw [E3.out] at hb
      exact H.out.head hk hb rfl rfl (fun _ => ⟨rfl, A2.out⟩) (by show -1 ≤ s.left - 1; omega) (by show s.left - 1 ≤ _; omega)

theorem FAt.rearm {w w1 w' : World} {B : Nat} {L : FL} {s s' : FS} {af' : Int} {A : Option Addr} {c : Nat} {ps : List Int} (h : FAt w B L s) (k1 : Keeps None w w1) (o1 : Own w1 w.heap.size (.slice A ps.length c) ps) (hk : Keeps (fun k => k = L.bf) w1 w')
    (hf : Blk w' L.bf [.slice (some ⟨L.gb, 0, none⟩) L.N L.capb, .slice (some ⟨L.ge, 0, none⟩) L.n L.n, .int .i64 s'.steps, .bool s'.dark, .bool (decide (0 ≤ s'.left)), .int .i64 af', .slice A ps.length c] 85)
    (hb : s'.b = s.b) (he : s'.er = s.er) (ha : 0 ≤ s'.left → af' = s'.left ∧ ps = s'.pick) (hm : -1 ≤ s'.left) (hx : s'.left ≤ 9223372036854775807) :
    Turn w w' B L { L with af := af', pA := A, pc := c, pk := ps } s' := by
  have hbf : L.bf < w.heap.size := h.lt _ (.inl (.inl rfl))
  have hnew : ∀ g, (Value.slice A ps.length c).ownBlock = some g → w.heap.size ≤ g := fun g hg => Nat.le_of_not_lt fun hlt => o1.notBelow hlt hg
  have k2 : Keeps (fun k => k = L.bf) w w' := k1.trans hk (fun _ h => h.elim) (fun _ _ h => h)
  refine ⟨⟨hf, by rw [hb]; exact h.b.keeps k2 (fun b e => by cases e; exact fun e => h.d1 e.symm), by rw [he]; exact k2.blk h.e (fun e => h.d2 e.symm), ?_, by rw [he]; exact h.el, ha, hm, hx, h.nN, h.n0, h.n9, h.bB, h.eB, h.d1, h.d2, h.d3, ?_⟩,
    k2.mono (fun i _ e => .inl (.inl e)), rfl, rfl, ?_⟩
  · exact (o1.lower (Nat.le_trans h.bB (Nat.le_of_lt hbf))).keeps hk (fun b e hb => by have := hnew b e; subst hb; omega)
  · intro g hg hS
    have h1 := hnew g hg
    have h2 := h.lt g (.inl hS)
    omega
  · intro k hk'
    rcases hk' with hS | hp
    · exact .inl (.inl hS)
    · exact .inr (hnew k hp)

set_option maxRecDepth 100000 in
theorem farm_any (B : Nat) (L : FL) (s : FS) (after : Int) (A : Option Addr) (m c : Nat) (ps : List Int) (w : World) (h : FAt w B L s) (hx : after ≤ 9223372036854775807) (hb : Bs w A m c ps) (hm : m ≤ 140737488355328) :
    Calls Try.prog 21 #[L.p, .int .i64 after, .slice A m c] w fun e w' => e = .returned (.tuple #[]) ∧ ∃ L', Turn w w' B L L' (s.armF after ps) := by
  have CL := Lib.hid (clone_any A m c ps w hb hm)
  have AF : Hid ((s.armF after ps).steps = s.steps ∧ (s.armF after ps).dark = s.dark ∧ decide (0 ≤ (s.armF after ps).left) = decide (0 ≤ after) ∧ (s.armF after ps).b = s.b ∧ (s.armF after ps).er = s.er ∧ (0 ≤ (s.armF after ps).left → after = (s.armF after ps).left ∧ ps = (s.armF after ps).pick) ∧ -1 ≤ (s.armF after ps).left ∧ (s.armF after ps).left ≤ 9223372036854775807) := by
    show _ ∧ _
    unfold FS.armF
    split
    · rename_i q
      exact ⟨rfl, rfl, by show decide ((0 : Int) ≤ -1) = _; rw [decide_eq_false (by decide), decide_eq_false (by omega)], rfl, rfl, fun h => absurd h (show ¬ (0 : Int) ≤ -1 by decide), (show (-1 : Int) ≤ -1 by decide), (show (-1 : Int) ≤ 9223372036854775807 by decide)⟩
    · rename_i q
      exact ⟨rfl, rfl, rfl, rfl, rfl, fun _ => ⟨rfl, rfl⟩, by show -1 ≤ after; omega, hx⟩
  generalize s.armF after ps = s' at *
  obtain ⟨bA, hbA⟩ : ∃ b, Hid (decide (0 ≤ after) = b) := ⟨_, rfl⟩
  have hd0 := hbA.out
  obtain ⟨bf, gb, ge, N, capb, n, af, pA, pc, pk⟩ := L
  have c0 := h.f.cellD 0 _ rfl
  have c1 := h.f.cellD 1 _ rfl
  have c2 := h.f.cellD 2 _ rfl
  have c3 := h.f.cellD 3 _ rfl
  have c4 := h.f.cellD 4 _ rfl
  have c5 := h.f.cellD 5 _ rfl
  have c6 := h.f.cellD 6 _ rfl
  have hcap := h.bs.le
  have hcmx := h.bs.max
  have hN := h.nN
  have hn0 := h.n0
  have hn9 := h.n9
  have H := Lib.hid h
  simp only [] at c0 c1 c2 c3 c4 c5 c6 hcap hcmx hN hn0 hn9
  have hNb : N ≤ 262144 := by omega
  have hN1 : 1024 ≤ N := by omega
  have HN := Lib.hid hN
  clear h hN
  simp only [FL.p, FL.pv]
  clear hb
  go_enter Try.func21, Try.ntmps21
  go_wp2_with fail
  refine CL.out.mono ?_
  rintro e w1 ⟨v1, rfl, o1, k1⟩
  obtain ⟨A1, cap1, rfl, bs1, -⟩ := o1.shape
  have O1 := Lib.hid o1
  have K1 := Lib.hid k1
  have H1 := Lib.hid (H.out.later k1)
  clear o1 k1 bs1 c0 c1 c2 c3 c4 c5 c6
  have z4 := H1.out.frz 4
  have z5 := H1.out.frz 5
  have z6 := H1.out.frz 6
  have y4 := H1.out.f.cellD 4 _ rfl
  have y5 := H1.out.f.cellD 5 _ rfl
  have y6 := H1.out.f.cellD 6 _ rfl
  simp only [] at z4 z5 z6 y4 y5 y6
  go_wp2
  go_end0
  have hk : Keeps (fun k => k = bf) w1 (((w1.setCell ⟨bf, 4, none⟩ (.bool bA)).setCell ⟨bf, 5, none⟩ (.int .i64 after)).setCell ⟨bf, 6, none⟩ (.slice A1 ps.length cap1)) := (((Keeps.self bf w1).put 4 _).put 5 _).put 6 _
  obtain ⟨f1, f2, f3, f4, f5, f6, f7, f8⟩ := AF.out
  have hbk := ((H1.out.f.set 4 (.bool bA)).set 5 (.int .i64 after)).set 6 (.slice A1 ps.length cap1)
  refine ⟨rfl, _, H.out.rearm K1.out O1.out hk (s' := s') (af' := after) ?_ f4 f5 f6 f7 f8⟩
  rw [f1, f2, f3, hbA.out]
  exact hbk

/-- A flash's bytes, cut. -/
theorem FAt.cut {w : World} {B : Nat} {L : FL} {s : FS} (h : FAt w B L s) {i j : Nat} (hij : i + j ≤ L.N) : Bs w (some ⟨L.gb, i, none⟩) j (L.capb - i) ((s.b.drop i).take j) := by
  have := Bs.take (k := j) (h.bs.drop (k := i) (by omega)) (by omega)
  rwa [Nat.zero_add] at this

set_option maxRecDepth 100000 in
theorem fdirty_any (B : Nat) (L : FL) (s : FS) (i : Nat) (A : Option Addr) (m c : Nat) (zs : List Int) (w : World) (h : FAt w B L s) (hb : Bs w A m c zs) (hi : i + m ≤ L.N) :
    Calls Try.prog 105 #[L.p, .int .i64 i, .slice A m c] w (Told (!canN ((s.b.drop i).take m) zs) w) := by
  have hle := hb.le
  have hmx := hb.max
  by_cases hc : L.capb = i
  · have hN := h.bs.le
    obtain rfl : m = 0 := by omega
    have e0 : zs = [] := List.eq_nil_of_length_eq_zero hb.len
    subst e0
    have CN := Lib.hid (can_any (some ⟨L.gb, 0, none⟩) A 0 0 0 c [] [] w (Bs.empty _ _ _ (by omega)) hb)
    simp only [List.take_zero]
    have hcn : canN [] [] = true := rfl
    rw [hcn] at CN ⊢
    clear hb hcn
    obtain ⟨bf, gb, ge, N, capb, n, af, pA, pc, pk⟩ := L
    have c0 := h.f.cellD 0 _ rfl
    have c1 := h.f.cellD 1 _ rfl
    have c2 := h.f.cellD 2 _ rfl
    have c3 := h.f.cellD 3 _ rfl
    have c4 := h.f.cellD 4 _ rfl
    have c5 := h.f.cellD 5 _ rfl
    have c6 := h.f.cellD 6 _ rfl
    have hcap := h.bs.le
    have hcmx := h.bs.max
    have hN := h.nN
    have hn0 := h.n0
    have hn9 := h.n9
    have H := Lib.hid h
    simp only [] at c0 c1 c2 c3 c4 c5 c6 hcap hcmx hN hn0 hn9
    have hNb : N ≤ 262144 := by omega
    have hN1 : 1024 ≤ N := by omega
    have HN := Lib.hid hN
    clear h hN
    simp only [FL.p, FL.pv]
    simp only [] at hc hi CN
    subst hc
    go_enter Try.func105, Try.ntmps105
    go_wp2_with fail
    refine CN.out.mono ?_
    rintro e w1 ⟨rfl, q, rfl⟩
    go_wp2
    go_ret
    exact ⟨rfl, q, rfl⟩
  · have CN := Lib.hid (can_any _ A m _ m c _ zs w (h.cut (i := i) (j := m) hi) hb)
    generalize canN ((s.b.drop i).take m) zs = cb at *
    have hsub : i + m - i = m := by omega
    clear hb
    obtain ⟨bf, gb, ge, N, capb, n, af, pA, pc, pk⟩ := L
    have c0 := h.f.cellD 0 _ rfl
    have c1 := h.f.cellD 1 _ rfl
    have c2 := h.f.cellD 2 _ rfl
    have c3 := h.f.cellD 3 _ rfl
    have c4 := h.f.cellD 4 _ rfl
    have c5 := h.f.cellD 5 _ rfl
    have c6 := h.f.cellD 6 _ rfl
    have hcap := h.bs.le
    have hcmx := h.bs.max
    have hN := h.nN
    have hn0 := h.n0
    have hn9 := h.n9
    have H := Lib.hid h
    simp only [] at c0 c1 c2 c3 c4 c5 c6 hcap hcmx hN hn0 hn9
    have hNb : N ≤ 262144 := by omega
    have hN1 : 1024 ≤ N := by omega
    have HN := Lib.hid hN
    clear h hN
    simp only [FL.p, FL.pv]
    simp only [] at hc hi CN
    go_enter Try.func105, Try.ntmps105
    go_wp2_with fail
    refine CN.out.mono ?_
    rintro e w1 ⟨rfl, q, rfl⟩
    go_wp2
    go_ret
    exact ⟨rfl, q, rfl⟩
end Go.Proofs.Ytbefbojeojokjaa
