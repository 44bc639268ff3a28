/- Texts put together: FlWrite, FlProg. -/
import Derived.Test.YtgehkioneelgcaaJCua

/- The walks of the calls that change a flash: Boot, Arm, Spoil, broken. -/
namespace Go.Proofs.Ytgehkioneelgcaa
open Go.RowKit

/-- A flash that has turned. -/
structure Turn (w w' : World) (B : Nat) (L L' : FL) (s' : FS) : Prop where
  at_ : FAt w' B L' s'
  keeps : Keeps L.O w w'
  bf : L'.bf = L.bf
  n : L'.n = L.n
  o : ∀ k, L'.O k → L.O k ∨ w.heap.size ≤ k
theorem Turn.self {w : World} {B : Nat} {L : FL} {s : FS} (h : FAt w B L s) : Turn w w B L L s := ⟨h, Keeps.refl _ _, rfl, rfl, fun _ h => .inl h⟩
theorem FAt.head {w w' : World} {B : Nat} {L : FL} {s s' : FS} {af' : Int} (h : FAt w B L s) (hk : Keeps (fun k => k = L.bf) w w')
    (hf : Blk w' L.bf [.slice (some ⟨L.gb, 0, none⟩) L.N L.capb, .slice (some ⟨L.ge, 0, none⟩) L.n L.n, .int .i64 s'.steps, .bool s'.dark, .bool (decide (0 ≤ s'.left)), .int .i64 af', .slice L.pA L.pk.length L.pc] 46)
    (hb : s'.b = s.b) (he : s'.er = s.er) (ha : 0 ≤ s'.left → af' = s'.left ∧ L.pk = s'.pick) (hm : -1 ≤ s'.left) (hx : s'.left ≤ 9223372036854775807) : FAt w' B { L with af := af' } s' :=
  ⟨hf, by rw [hb]; exact h.b.keeps hk (fun b e => by cases e; exact fun e => h.d1 e.symm), by rw [he]; exact hk.blk h.e (fun e => h.d2 e.symm), h.p.keeps hk (fun b e hb => h.pn b e (.inl hb)), by rw [he]; exact h.el, ha, hm, hx, h.nN, h.n0, h.n9, h.bB, h.eB, h.d1, h.d2, h.d3, h.pn⟩
theorem FAt.bytes {w w' : World} {B : Nat} {L : FL} {s : FS} {b' : List Int} (h : FAt w B L s) (hk : Keeps (fun k => k = L.gb) w w') (hb : Own w' B (.slice (some ⟨L.gb, 0, none⟩) L.N L.capb) b') : FAt w' B L { s with b := b' } :=
  ⟨hk.blk h.f h.d1, hb, hk.blk h.e (fun e => h.d3 e.symm), h.p.keeps hk (fun b e hb => h.pn b e (.inr (.inl hb))), h.el, h.armed, h.lm, h.lx, h.nN, h.n0, h.n9, h.bB, h.eB, h.d1, h.d2, h.d3, h.pn⟩
theorem FAt.sect {w w' : World} {B : Nat} {L : FL} {s : FS} {er' : List Int} (h : FAt w B L s) (hk : Keeps (fun k => k = L.ge) w w') (he : Blk w' L.ge (er'.map (.int .i64)) 3) (hl : er'.length = s.er.length) : FAt w' B L { s with er := er' } :=
  ⟨hk.blk h.f h.d2, h.b.keeps hk (fun b e => by cases e; exact h.d3), he, h.p.keeps hk (fun b e hb => h.pn b e (.inr (.inr hb))), hl.trans h.el, h.armed, h.lm, h.lx, h.nN, h.n0, h.n9, h.bB, h.eB, h.d1, h.d2, h.d3, h.pn⟩
theorem FAt.frz {w : World} {B : Nat} {L : FL} {s : FS} (h : FAt w B L s) (i : Nat) : w.frozen? ⟨L.bf, i, none⟩ = false := h.f.frozen i
/-- Only the flash's own block has turned. -/
theorem Turn.ofHead {w w' : World} {B : Nat} {L : FL} {s' : FS} {af' : Int} (hk : Keeps (fun k => k = L.bf) w w') (h : FAt w' B { L with af := af' } s') : Turn w w' B L { L with af := af' } s' :=
  ⟨h, hk.mono (fun i _ e => .inl (.inl e)), rfl, rfl, fun _ h => .inl h⟩


set_option maxRecDepth 100000 in
theorem fboot_any (B : Nat) (L : FL) (s : FS) (w : World) (h : FAt w B L s) : Calls Try.prog 14 #[L.p] w fun e w' => e = .returned (.tuple #[]) ∧ ∃ L', Turn w w' B L L' s.bootF := by
  obtain ⟨bf, gb, ge, N, capb, n, af, pA, pc, pk⟩ := L
  have c0 := h.f.cellD 0 _ rfl
  have c1 := h.f.cellD 1 _ rfl
  have c2 := h.f.cellD 2 _ rfl
  have c3 := h.f.cellD 3 _ rfl
  have c4 := h.f.cellD 4 _ rfl
  have c5 := h.f.cellD 5 _ rfl
  have c6 := h.f.cellD 6 _ rfl
  have hcap := h.bs.le
  have hcmx := h.bs.max
  have hN := h.nN
  have hn0 := h.n0
  have hn9 := h.n9
  have H := Lib.hid h
  simp only [] at c0 c1 c2 c3 c4 c5 c6 hcap hcmx hN hn0 hn9
  have hNb : N ≤ 262144 := by omega
  have hN1 : 1024 ≤ N := by omega
  have HN := Lib.hid hN
  clear h hN
  simp only [FL.p, FL.pv]
  have z0 := H.out.frz 0
  have z1 := H.out.frz 1
  have z2 := H.out.frz 2
  have z3 := H.out.frz 3
  have z4 := H.out.frz 4
  have z5 := H.out.frz 5
  have z6 := H.out.frz 6
  simp only [] at z0 z1 z2 z3 z4 z5 z6
  go_enter Try.func14, Try.ntmps14
  go_wp2
  go_end0
  have hk : Keeps (fun k => k = bf) w ((w.setCell ⟨bf, 4, none⟩ (.bool false)).setCell ⟨bf, 3, none⟩ (.bool false)) := ((Keeps.self bf w).put 4 _).put 3 _
  exact ⟨rfl, _, Turn.ofHead (L := ⟨bf, gb, ge, N, capb, n, af, pA, pc, pk⟩) hk (H.out.head hk ((H.out.f.set 4 _).set 3 _) rfl rfl (fun h => absurd h (show ¬ (0 : Int) ≤ -1 by decide)) (show (-1 : Int) ≤ -1 by decide) (show (-1 : Int) ≤ 9223372036854775807 by decide))⟩

/-- What the call that counts a step leaves. -/
def Broke (w : World) (B : Nat) (L : FL) (s : FS) (e : Ending) (w' : World) : Prop := e = .returned (.bool (decide (s.left = 0))) ∧ Keeps (fun k => k = L.bf) w w' ∧ ∃ af', FAt w' B { L with af := af' } s.stepped

set_option maxRecDepth 100000 in
theorem fbroken_any (B : Nat) (L : FL) (s : FS) (w : World) (h : FAt w B L s) (hst : 0 ≤ s.steps ∧ s.steps ≤ 1000000000000) : Calls Try.prog 61 #[L.p] w (Broke w B L s) := by
  obtain ⟨st1, st2⟩ := hst
  have lm := h.lm
  have lx := h.lx
  have ha := h.armed
  by_cases q1 : s.left < 0
  · have e1 : decide (0 ≤ s.left) = false := decide_eq_false (by omega)
    have ES : Hid (s.stepped = { s with steps := s.steps + 1 }) := if_pos q1
    have EL : Hid (decide (s.left = 0) = false) := decide_eq_false (by omega)
    obtain ⟨bf, gb, ge, N, capb, n, af, pA, pc, pk⟩ := L
    have c0 := h.f.cellD 0 _ rfl
    have c1 := h.f.cellD 1 _ rfl
    have c2 := h.f.cellD 2 _ rfl
    have c3 := h.f.cellD 3 _ rfl
    have c4 := h.f.cellD 4 _ rfl
    have c5 := h.f.cellD 5 _ rfl
    have c6 := h.f.cellD 6 _ rfl
    have hcap := h.bs.le
    have hcmx := h.bs.max
    have hN := h.nN
    have hn0 := h.n0
    have hn9 := h.n9
    have H := Lib.hid h
    simp only [] at c0 c1 c2 c3 c4 c5 c6 hcap hcmx hN hn0 hn9
    have hNb : N ≤ 262144 := by omega
    have hN1 : 1024 ≤ N := by omega
    have HN := Lib.hid hN
    clear h hN
    simp only [FL.p, FL.pv]
    have z0 := H.out.frz 0
    have z1 := H.out.frz 1
    have z2 := H.out.frz 2
    have z3 := H.out.frz 3
    have z4 := H.out.frz 4
    have z5 := H.out.frz 5
    have z6 := H.out.frz 6
    simp only [] at z0 z1 z2 z3 z4 z5 z6
    rw [e1] at c4
    simp only [] at ha
    have HA := Lib.hid ha
    have Q1 := Lib.hid q1
    clear ha q1 e1
    go_enter Try.func61, Try.ntmps61
    go_wp2
    go_ret
    have hk : Keeps (fun k => k = bf) w (w.setCell ⟨bf, 2, none⟩ (.int .i64 (s.steps + 1))) := (Keeps.self bf w).put 2 _
    refine ⟨ret_bool EL.out.symm, hk, af, ?_⟩
    rw [ES.out]
    exact H.out.head hk (H.out.f.set 2 _) rfl rfl HA.out lm lx
  · obtain ⟨a1, a2⟩ := ha (by omega)
    by_cases q2 : s.left = 0
    · have e1 : decide (0 ≤ s.left) = true := decide_eq_true (by omega)
      have ES : Hid (s.stepped = { s with steps := s.steps + 1, left := -1, pick := [], dark := true }) := by
        show s.stepped = _
        unfold FS.stepped; rw [if_neg q1, if_pos q2]
      have EL : Hid (decide (s.left = 0) = true) := decide_eq_true q2
      obtain ⟨bf, gb, ge, N, capb, n, af, pA, pc, pk⟩ := L
      have c0 := h.f.cellD 0 _ rfl
      have c1 := h.f.cellD 1 _ rfl
      have c2 := h.f.cellD 2 _ rfl
      have c3 := h.f.cellD 3 _ rfl
      have c4 := h.f.cellD 4 _ rfl
      have c5 := h.f.cellD 5 _ rfl
      have c6 := h.f.cellD 6 _ rfl
      have hcap := h.bs.le
      have hcmx := h.bs.max
      have hN := h.nN
      have hn0 := h.n0
      have hn9 := h.n9
      have H := Lib.hid h
      simp only [] at c0 c1 c2 c3 c4 c5 c6 hcap hcmx hN hn0 hn9
      have hNb : N ≤ 262144 := by omega
      have hN1 : 1024 ≤ N := by omega
      have HN := Lib.hid hN
      clear h hN
      simp only [FL.p, FL.pv]
      have z0 := H.out.frz 0
      have z1 := H.out.frz 1
      have z2 := H.out.frz 2
      have z3 := H.out.frz 3
      have z4 := H.out.frz 4
      have z5 := H.out.frz 5
      have z6 := H.out.frz 6
      simp only [] at z0 z1 z2 z3 z4 z5 z6
      simp only [] at a1 a2
      rw [e1] at c4
      rw [a1, q2] at c5
      clear a1 a2 q1 q2 e1 ha
      go_enter Try.func61, Try.ntmps61
      go_wp2
      go_ret
      have hk : Keeps (fun k => k = bf) w (((w.setCell ⟨bf, 2, none⟩ (.int .i64 (s.steps + 1))).setCell ⟨bf, 4, none⟩ (.bool false)).setCell ⟨bf, 3, none⟩ (.bool true)) := (((Keeps.self bf w).put 2 _).put 4 _).put 3 _
      refine ⟨ret_bool EL.out.symm, hk, af, ?_⟩
      rw [ES.out]
      exact H.out.head hk (((H.out.f.set 2 _).set 4 _).set 3 _) rfl rfl (fun h => absurd h (show ¬ (0 : Int) ≤ -1 by decide)) (show (-1 : Int) ≤ -1 by decide) (show (-1 : Int) ≤ 9223372036854775807 by decide)
    · have e1 : decide (0 ≤ s.left) = true := decide_eq_true (by omega)
      have e2 : decide (0 < s.left) = true := decide_eq_true (by omega)
      have ES : Hid (s.stepped = { s with steps := s.steps + 1, left := s.left - 1 }) := by
        show s.stepped = _
        unfold FS.stepped; rw [if_neg q1, if_neg q2]
      have EL : Hid (decide (s.left = 0) = false) := decide_eq_false q2
      have lp : 0 < s.left := by omega
      have E3 : Hid (decide (0 ≤ s.left) = decide (0 ≤ s.left - 1)) := by show decide _ = decide _; rw [e1]; exact (decide_eq_true (by omega)).symm
      obtain ⟨bf, gb, ge, N, capb, n, af, pA, pc, pk⟩ := L
      have c0 := h.f.cellD 0 _ rfl
      have c1 := h.f.cellD 1 _ rfl
      have c2 := h.f.cellD 2 _ rfl
      have c3 := h.f.cellD 3 _ rfl
      have c4 := h.f.cellD 4 _ rfl
      have c5 := h.f.cellD 5 _ rfl
      have c6 := h.f.cellD 6 _ rfl
      have hcap := h.bs.le
      have hcmx := h.bs.max
      have hN := h.nN
      have hn0 := h.n0
      have hn9 := h.n9
      have H := Lib.hid h
      simp only [] at c0 c1 c2 c3 c4 c5 c6 hcap hcmx hN hn0 hn9
      have hNb : N ≤ 262144 := by omega
      have hN1 : 1024 ≤ N := by omega
      have HN := Lib.hid hN
      clear h hN
      simp only [FL.p, FL.pv]
      have z0 := H.out.frz 0
      have z1 := H.out.frz 1
      have z2 := H.out.frz 2
      have z3 := H.out.frz 3
      have z4 := H.out.frz 4
      have z5 := H.out.frz 5
      have z6 := H.out.frz 6
      simp only [] at z0 z1 z2 z3 z4 z5 z6
      simp only [] at a1 a2
      rw [e1] at c4
      rw [a1] at c5
      have A2 := Lib.hid a2
      clear a1 a2 q1 q2 ha
      go_enter Try.func61, Try.ntmps61
      go_wp2
      go_ret
      have hk : Keeps (fun k => k = bf) w ((w.setCell ⟨bf, 2, none⟩ (.int .i64 (s.steps + 1))).setCell ⟨bf, 5, none⟩ (.int .i64 (s.left - 1))) := ((Keeps.self bf w).put 2 _).put 5 _
      refine ⟨ret_bool EL.out.symm, hk, s.left - 1, ?_⟩
      rw [ES.out]
      have hb := (H.out.f.set 2 (.int .i64 (s.steps + 1))).set 5 (.int .i64 (s.left - 1))
      rw [E3.out] at hb
      exact H.out.head hk hb rfl rfl (fun _ => ⟨rfl, A2.out⟩) (by show -1 ≤ s.left - 1; omega) (by show s.left - 1 ≤ _; omega)

theorem FAt.rearm {w w1 w' : World} {B : Nat} {L : FL} {s s' : FS} {af' : Int} {A : Option Addr} {c : Nat} {ps : List Int} (h : FAt w B L s) (k1 : Keeps None w w1) (o1 : Own w1 w.heap.size (.slice A ps.length c) ps) (hk : Keeps (fun k => k = L.bf) w1 w')
    (hf : Blk w' L.bf [.slice (some ⟨L.gb, 0, none⟩) L.N L.capb, .slice (some ⟨L.ge, 0, none⟩) L.n L.n, .int .i64 s'.steps, .bool s'.dark, .bool (decide (0 ≤ s'.left)), .int .i64 af', .slice A ps.length c] 46)
    (hb : s'.b = s.b) (he : s'.er = s.er) (ha : 0 ≤ s'.left → af' = s'.left ∧ ps = s'.pick) (hm : -1 ≤ s'.left) (hx : s'.left ≤ 9223372036854775807) :
    Turn w w' B L { L with af := af', pA := A, pc := c, pk := ps } s' := by
  have hbf : L.bf < w.heap.size := h.lt _ (.inl (.inl rfl))
  have hnew : ∀ g, (Value.slice A ps.length c).ownBlock = some g → w.heap.size ≤ g := fun g hg => Nat.le_of_not_lt fun hlt => o1.notBelow hlt hg
  have k2 : Keeps (fun k => k = L.bf) w w' := k1.trans hk (fun _ h => h.elim) (fun _ _ h => h)
  refine ⟨⟨hf, by rw [hb]; exact h.b.keeps k2 (fun b e => by cases e; exact fun e => h.d1 e.symm), by rw [he]; exact k2.blk h.e (fun e => h.d2 e.symm), ?_, by rw [he]; exact h.el, ha, hm, hx, h.nN, h.n0, h.n9, h.bB, h.eB, h.d1, h.d2, h.d3, ?_⟩,
    k2.mono (fun i _ e => .inl (.inl e)), rfl, rfl, ?_⟩
  · exact (o1.lower (Nat.le_trans h.bB (Nat.le_of_lt hbf))).keeps hk (fun b e hb => by have := hnew b e; subst hb; omega)
  · intro g hg hS
    have h1 := hnew g hg
    have h2 := h.lt g (.inl hS)
    omega
  · intro k hk'
    rcases hk' with hS | hp
    · exact .inl (.inl hS)
    · exact .inr (hnew k hp)

set_option maxRecDepth 100000 in
theorem farm_any (B : Nat) (L : FL) (s : FS) (after : Int) (A : Option Addr) (m c : Nat) (ps : List Int) (w : World) (h : FAt w B L s) (hx : after ≤ 9223372036854775807) (hb : Bs w A m c ps) (hm : m ≤ 140737488355328) :
    Calls Try.prog 12 #[L.p, .int .i64 after, .slice A m c] w fun e w' => e = .returned (.tuple #[]) ∧ ∃ L', Turn w w' B L L' (s.armF after ps) := by
  have CL := Lib.hid (clone_any A m c ps w hb hm)
  have AF : Hid ((s.armF after ps).steps = s.steps ∧ (s.armF after ps).dark = s.dark ∧ decide (0 ≤ (s.armF after ps).left) = decide (0 ≤ after) ∧ (s.armF after ps).b = s.b ∧ (s.armF after ps).er = s.er ∧ (0 ≤ (s.armF after ps).left → after = (s.armF after ps).left ∧ ps = (s.armF after ps).pick) ∧ -1 ≤ (s.armF after ps).left ∧ (s.armF after ps).left ≤ 9223372036854775807) := by
    show _ ∧ _
    unfold FS.armF
    split
    · rename_i q
      exact ⟨rfl, rfl, by show decide ((0 : Int) ≤ -1) = _; rw [decide_eq_false (by decide), decide_eq_false (by omega)], rfl, rfl, fun h => absurd h (show ¬ (0 : Int) ≤ -1 by decide), (show (-1 : Int) ≤ -1 by decide), (show (-1 : Int) ≤ 9223372036854775807 by decide)⟩
    · rename_i q
      exact ⟨rfl, rfl, rfl, rfl, rfl, fun _ => ⟨rfl, rfl⟩, by show -1 ≤ after; omega, hx⟩
  generalize s.armF after ps = s' at *
  obtain ⟨bA, hbA⟩ : ∃ b, Hid (decide (0 ≤ after) = b) := ⟨_, rfl⟩
  have hd0 := hbA.out
  obtain ⟨bf, gb, ge, N, capb, n, af, pA, pc, pk⟩ := L
  have c0 := h.f.cellD 0 _ rfl
  have c1 := h.f.cellD 1 _ rfl
  have c2 := h.f.cellD 2 _ rfl
  have c3 := h.f.cellD 3 _ rfl
  have c4 := h.f.cellD 4 _ rfl
  have c5 := h.f.cellD 5 _ rfl
  have c6 := h.f.cellD 6 _ rfl
  have hcap := h.bs.le
  have hcmx := h.bs.max
  have hN := h.nN
  have hn0 := h.n0
  have hn9 := h.n9
  have H := Lib.hid h
  simp only [] at c0 c1 c2 c3 c4 c5 c6 hcap hcmx hN hn0 hn9
  have hNb : N ≤ 262144 := by omega
  have hN1 : 1024 ≤ N := by omega
  have HN := Lib.hid hN
  clear h hN
  simp only [FL.p, FL.pv]
  clear hb
  go_enter Try.func12, Try.ntmps12
  go_wp2_with fail
  refine CL.out.mono ?_
  rintro e w1 ⟨v1, rfl, o1, k1⟩
  obtain ⟨A1, cap1, rfl, bs1, -⟩ := o1.shape
  have O1 := Lib.hid o1
  have K1 := Lib.hid k1
  have H1 := Lib.hid (H.out.later k1)
  clear o1 k1 bs1 c0 c1 c2 c3 c4 c5 c6
  have z4 := H1.out.frz 4
  have z5 := H1.out.frz 5
  have z6 := H1.out.frz 6
  have y4 := H1.out.f.cellD 4 _ rfl
  have y5 := H1.out.f.cellD 5 _ rfl
  have y6 := H1.out.f.cellD 6 _ rfl
  simp only [] at z4 z5 z6 y4 y5 y6
  go_wp2
  go_end0
  have hk : Keeps (fun k => k = bf) w1 (((w1.setCell ⟨bf, 4, none⟩ (.bool bA)).setCell ⟨bf, 5, none⟩ (.int .i64 after)).setCell ⟨bf, 6, none⟩ (.slice A1 ps.length cap1)) := (((Keeps.self bf w1).put 4 _).put 5 _).put 6 _
  obtain ⟨f1, f2, f3, f4, f5, f6, f7, f8⟩ := AF.out
  have hbk := ((H1.out.f.set 4 (.bool bA)).set 5 (.int .i64 after)).set 6 (.slice A1 ps.length cap1)
  refine ⟨rfl, _, H.out.rearm K1.out O1.out hk (s' := s') (af' := after) ?_ f4 f5 f6 f7 f8⟩
  rw [f1, f2, f3, hbA.out]
  exact hbk

/-- A flash's bytes, cut. -/
theorem FAt.cut {w : World} {B : Nat} {L : FL} {s : FS} (h : FAt w B L s) {i j : Nat} (hij : i + j ≤ L.N) : Bs w (some ⟨L.gb, i, none⟩) j (L.capb - i) ((s.b.drop i).take j) := by
  have := Bs.take (k := j) (h.bs.drop (k := i) (by omega)) (by omega)
  rwa [Nat.zero_add] at this

set_option maxRecDepth 100000 in
theorem fdirty_any (B : Nat) (L : FL) (s : FS) (i : Nat) (A : Option Addr) (m c : Nat) (zs : List Int) (w : World) (h : FAt w B L s) (hb : Bs w A m c zs) (hi : i + m ≤ L.N) :
    Calls Try.prog 60 #[L.p, .int .i64 i, .slice A m c] w (Told (!canN ((s.b.drop i).take m) zs) w) := by
  have hle := hb.le
  have hmx := hb.max
  by_cases hc : L.capb = i
  · have hN := h.bs.le
    obtain rfl : m = 0 := by omega
    have e0 : zs = [] := List.eq_nil_of_length_eq_zero hb.len
    subst e0
    have CN := Lib.hid (can_any (some ⟨L.gb, 0, none⟩) A 0 0 0 c [] [] w (Bs.empty _ _ _ (by omega)) hb)
    simp only [List.take_zero]
    have hcn : canN [] [] = true := rfl
    rw [hcn] at CN ⊢
    clear hb hcn
    obtain ⟨bf, gb, ge, N, capb, n, af, pA, pc, pk⟩ := L
    have c0 := h.f.cellD 0 _ rfl
    have c1 := h.f.cellD 1 _ rfl
    have c2 := h.f.cellD 2 _ rfl
    have c3 := h.f.cellD 3 _ rfl
    have c4 := h.f.cellD 4 _ rfl
    have c5 := h.f.cellD 5 _ rfl
    have c6 := h.f.cellD 6 _ rfl
    have hcap := h.bs.le
    have hcmx := h.bs.max
    have hN := h.nN
    have hn0 := h.n0
    have hn9 := h.n9
    have H := Lib.hid h
    simp only [] at c0 c1 c2 c3 c4 c5 c6 hcap hcmx hN hn0 hn9
    have hNb : N ≤ 262144 := by omega
    have hN1 : 1024 ≤ N := by omega
    have HN := Lib.hid hN
    clear h hN
    simp only [FL.p, FL.pv]
    simp only [] at hc hi CN
    subst hc
    go_enter Try.func60, Try.ntmps60
    go_wp2_with fail
    refine CN.out.mono ?_
    rintro e w1 ⟨rfl, q, rfl⟩
    go_wp2
    go_ret
    exact ⟨rfl, q, rfl⟩
  · have CN := Lib.hid (can_any _ A m _ m c _ zs w (h.cut (i := i) (j := m) hi) hb)
    generalize canN ((s.b.drop i).take m) zs = cb at *
    have hsub : i + m - i = m := by omega
    clear hb
    obtain ⟨bf, gb, ge, N, capb, n, af, pA, pc, pk⟩ := L
    have c0 := h.f.cellD 0 _ rfl
    have c1 := h.f.cellD 1 _ rfl
    have c2 := h.f.cellD 2 _ rfl
    have c3 := h.f.cellD 3 _ rfl
    have c4 := h.f.cellD 4 _ rfl
    have c5 := h.f.cellD 5 _ rfl
    have c6 := h.f.cellD 6 _ rfl
    have hcap := h.bs.le
    have hcmx := h.bs.max
    have hN := h.nN
    have hn0 := h.n0
    have hn9 := h.n9
    have H := Lib.hid h
    simp only [] at c0 c1 c2 c3 c4 c5 c6 hcap hcmx hN hn0 hn9
    have hNb : N ≤ 262144 := by omega
    have hN1 : 1024 ≤ N := by omega
    have HN := Lib.hid hN
    clear h hN
    simp only [FL.p, FL.pv]
    simp only [] at hc hi CN
    go_enter Try.func60, Try.ntmps60
    go_wp2_with fail
    refine CN.out.mono ?_
    rintro e w1 ⟨rfl, q, rfl⟩
    go_wp2
    go_ret
    exact ⟨rfl, q, rfl⟩
end Go.Proofs.Ytgehkioneelgcaa
/- The walk of flash.Program. -/
namespace Go.Proofs.Ytgehkioneelgcaa
open Go.RowKit

theorem tornN_len8 {os ns ps : List Int} (h : canN os ns = true) : (tornN os ns ps).length = ns.length := by rw [tornN, if_pos h, tornTo_length]
theorem stepped_steps_le {s : FS} {a b : Int} (h1 : 0 ≤ s.steps) (h2 : s.steps + (a + 1) ≤ b) : 0 ≤ s.stepped.steps ∧ s.stepped.steps + a ≤ b := by rw [FS.stepped_steps]; omega
/-- A word of what is left can be programmed; and what is left then, too. -/
theorem can_word {L zs : List Int} {p k iv : Nat} (h : canN ((L.drop p).take (8 * (k + 1))) (zs.drop iv) = true) : canN ((L.drop p).take 8) ((zs.drop iv).take 8) = true := by
  have := canN_take h 8
  rwa [List.take_take, Nat.min_eq_left (by omega)] at this
theorem can_rest {L zs X : List Int} {p k iv : Nat} (hX : X.length = 8) (hp : p + 8 ≤ L.length) (h : canN ((L.drop p).take (8 * (k + 1))) (zs.drop iv) = true) : canN (((splice L p X).drop (p + 8)).take (8 * k)) (zs.drop (iv + 8)) = true := by
  have h2 := canN_drop h 8
  rw [List.drop_take, List.drop_drop, List.drop_drop] at h2
  rw [splice_drop _ _ _ _ (by omega) (by omega)]
  have e : 8 * (k + 1) - 8 = 8 * k := by omega
  rwa [e] at h2
theorem progW_cut {k : Nat} {s : FS} {p : Nat} {ws : List Int} {R : FS × Int} (h : progW (k + 1) s p ws = R) (h0 : s.left = 0) : R = ({ s.stepped with b := splice s.b p (tornN ((s.b.drop p).take 8) (ws.take 8) s.pick) }, 5) := by
  rw [← h]; show (if _ then _ else _) = _; rw [if_pos h0]
theorem progW_go {k : Nat} {s : FS} {p : Nat} {ws : List Int} {R : FS × Int} (h : progW (k + 1) s p ws = R) (h0 : ¬ s.left = 0) : progW k { s.stepped with b := splice s.b p (ws.take 8) } (p + 8) (ws.drop 8) = R := by
  rw [← h]; show _ = (if _ then _ else _); rw [if_neg h0]

/-- What Program leaves. -/
def ProgTold (w : World) (B : Nat) (L : FL) (r : FS × Int) (e : Ending) (w' : World) : Prop := e = .returned (.int .i64 r.2) ∧ ∃ L', Turn w w' B L L' r.1


set_option maxRecDepth 100000 in
set_option maxHeartbeats 1600000 in
theorem fprogram_any (B : Nat) (L : FL) (s : FS) (a : Int) (A : Option Addr) (m c : Nat) (zs : List Int) (w : World) (h : FAt w B L s) (hb : Bs w A m c zs) (hst : 0 ≤ s.steps ∧ s.steps + m ≤ 1000000000000)
    (hA : ∀ b off, 0 < m → A = some ⟨b, off, none⟩ → ¬ L.S b) : Calls Try.prog 48 #[L.p, .int .i64 a, .slice A m c] w (ProgTold w B L (s.progF a zs)) := by
  have WI := Lib.hid (fwithin_any B L s a m w h)
  have hbl := h.bl
  have hml := hb.len
  have hle := hb.le
  have hmx := hb.max
  have PF : Hid (s.progF a zs = if s.dark = true then (s, 5) else if withinB a m L.N = false then (s, 2) else if a % 8 ≠ 0 ∨ m % 8 ≠ 0 then (s, 3) else if canN ((s.b.drop a.toNat).take m) zs = false then (s, 4) else progW (m / 8) s a.toNat zs) := by
    show s.progF a zs = _
    unfold FS.progF; rw [hbl, hml]
  have HT := Lib.hid (Turn.self h)
  obtain ⟨L0, hL0⟩ : ∃ x, x = L := ⟨_, rfl⟩
  have HL0 := Lib.hid hL0
  rw [← hL0] at HT
  clear hL0 hbl
  cases hd : s.dark with
  | true =>
    rw [hd] at PF
    have PG : Hid (s.progF a zs = (s, 5)) := by show _ = _; rw [PF.out, if_pos rfl]
    clear WI hb hA
    obtain ⟨bf, gb, ge, N, capb, n, af, pA, pc, pk⟩ := L
    have c0 := h.f.cellD 0 _ rfl
    have c1 := h.f.cellD 1 _ rfl
    have c2 := h.f.cellD 2 _ rfl
    have c3 := h.f.cellD 3 _ rfl
    have c4 := h.f.cellD 4 _ rfl
    have c5 := h.f.cellD 5 _ rfl
    have c6 := h.f.cellD 6 _ rfl
    have hcap := h.bs.le
    have hcmx := h.bs.max
    have hN := h.nN
    have hn0 := h.n0
    have hn9 := h.n9
    have H := Lib.hid h
    simp only [] at c0 c1 c2 c3 c4 c5 c6 hcap hcmx hN hn0 hn9
    have hNb : N ≤ 262144 := by omega
    have hN1 : 1024 ≤ N := by omega
    have HN := Lib.hid hN
    clear h hN
    simp only [FL.p, FL.pv]
    rw [HL0.out] at HT
    rw [hd] at c3
    clear hd HL0
    go_enter Try.func48, Try.ntmps48
    go_wp2
    go_ret
    rw [PG.out]
    exact ⟨rfl, _, HT.out⟩
  | false =>
  rw [hd] at PF
  cases hw : withinB a m L.N with
  | false =>
    rw [hw] at PF WI
    have PG : Hid (s.progF a zs = (s, 2)) := by show _ = _; rw [PF.out, if_neg (by decide), if_pos rfl]
    clear hb hA hw
    obtain ⟨bf, gb, ge, N, capb, n, af, pA, pc, pk⟩ := L
    have c0 := h.f.cellD 0 _ rfl
    have c1 := h.f.cellD 1 _ rfl
    have c2 := h.f.cellD 2 _ rfl
    have c3 := h.f.cellD 3 _ rfl
    have c4 := h.f.cellD 4 _ rfl
    have c5 := h.f.cellD 5 _ rfl
    have c6 := h.f.cellD 6 _ rfl
    have hcap := h.bs.le
    have hcmx := h.bs.max
    have hN := h.nN
    have hn0 := h.n0
    have hn9 := h.n9
    have H := Lib.hid h
    simp only [] at c0 c1 c2 c3 c4 c5 c6 hcap hcmx hN hn0 hn9
    have hNb : N ≤ 262144 := by omega
    have hN1 : 1024 ≤ N := by omega
    have HN := Lib.hid hN
    clear h hN
    simp only [FL.p, FL.pv]
    rw [HL0.out] at HT
    rw [hd] at c3
    clear hd HL0
    simp only [FL.p] at WI
    go_enter Try.func48, Try.ntmps48
    go_wp2_with fail
    refine WI.out.mono ?_
    rintro e w' ⟨rfl, rfl⟩
    go_wp2
    go_ret
    rw [PG.out]
    exact ⟨rfl, _, HT.out⟩
  | true =>
  rw [hw] at PF WI
  obtain ⟨i, j, rfl, hj, hij⟩ := within_nat hw
  obtain rfl : m = j := by omega
  simp only [Int.toNat_natCast] at PF
  clear hw hj
  by_cases g1 : i % 8 = 0
  case neg =>
    have PG : Hid (s.progF i zs = (s, 3)) := by show _ = _; rw [PF.out, if_neg (by decide), if_neg (by decide), if_pos (.inl (by omega))]
    have e1 : ((i : Int) % 8 != 0) = true := by simp; omega
    clear hb hA
    obtain ⟨bf, gb, ge, N, capb, n, af, pA, pc, pk⟩ := L
    have c0 := h.f.cellD 0 _ rfl
    have c1 := h.f.cellD 1 _ rfl
    have c2 := h.f.cellD 2 _ rfl
    have c3 := h.f.cellD 3 _ rfl
    have c4 := h.f.cellD 4 _ rfl
    have c5 := h.f.cellD 5 _ rfl
    have c6 := h.f.cellD 6 _ rfl
    have hcap := h.bs.le
    have hcmx := h.bs.max
    have hN := h.nN
    have hn0 := h.n0
    have hn9 := h.n9
    have H := Lib.hid h
    simp only [] at c0 c1 c2 c3 c4 c5 c6 hcap hcmx hN hn0 hn9
    have hNb : N ≤ 262144 := by omega
    have hN1 : 1024 ≤ N := by omega
    have HN := Lib.hid hN
    clear h hN
    simp only [FL.p, FL.pv]
    rw [HL0.out] at HT
    rw [hd] at c3
    clear hd HL0
    simp only [FL.p] at WI
    go_enter Try.func48, Try.ntmps48
    go_wp2_with fail
    refine WI.out.mono ?_
    rintro e w' ⟨rfl, rfl⟩
    go_wp2
    go_ret
    rw [PG.out]
    exact ⟨rfl, _, HT.out⟩
  have e1 : ((i : Int) % 8 != 0) = false := by simp; omega
  by_cases g2 : m % 8 = 0
  case neg =>
    have PG : Hid (s.progF i zs = (s, 3)) := by show _ = _; rw [PF.out, if_neg (by decide), if_neg (by decide), if_pos (.inr g2)]
    have e2 : ((m : Int) % 8 != 0) = true := by simp; omega
    clear hb hA
    obtain ⟨bf, gb, ge, N, capb, n, af, pA, pc, pk⟩ := L
    have c0 := h.f.cellD 0 _ rfl
    have c1 := h.f.cellD 1 _ rfl
    have c2 := h.f.cellD 2 _ rfl
    have c3 := h.f.cellD 3 _ rfl
    have c4 := h.f.cellD 4 _ rfl
    have c5 := h.f.cellD 5 _ rfl
    have c6 := h.f.cellD 6 _ rfl
    have hcap := h.bs.le
    have hcmx := h.bs.max
    have hN := h.nN
    have hn0 := h.n0
    have hn9 := h.n9
    have H := Lib.hid h
    simp only [] at c0 c1 c2 c3 c4 c5 c6 hcap hcmx hN hn0 hn9
    have hNb : N ≤ 262144 := by omega
    have hN1 : 1024 ≤ N := by omega
    have HN := Lib.hid hN
    clear h hN
    simp only [FL.p, FL.pv]
    rw [HL0.out] at HT
    rw [hd] at c3
    clear hd HL0
    simp only [FL.p] at WI
    go_enter Try.func48, Try.ntmps48
    go_wp2_with fail
    refine WI.out.mono ?_
    rintro e w' ⟨rfl, rfl⟩
    go_wp2
    go_ret
    rw [PG.out]
    exact ⟨rfl, _, HT.out⟩
  have e2 : ((m : Int) % 8 != 0) = false := by simp; omega
  have DI := Lib.hid (fdirty_any B L s i A m c zs w h hb hij)
  cases hc : canN ((s.b.drop i).take m) zs with
  | false =>
    rw [hc] at PF DI
    have PG : Hid (s.progF i zs = (s, 4)) := by show _ = _; rw [PF.out, if_neg (by decide), if_neg (by decide), if_neg (by omega), if_pos rfl]
    clear hb hA hc
    obtain ⟨bf, gb, ge, N, capb, n, af, pA, pc, pk⟩ := L
    have c0 := h.f.cellD 0 _ rfl
    have c1 := h.f.cellD 1 _ rfl
    have c2 := h.f.cellD 2 _ rfl
    have c3 := h.f.cellD 3 _ rfl
    have c4 := h.f.cellD 4 _ rfl
    have c5 := h.f.cellD 5 _ rfl
    have c6 := h.f.cellD 6 _ rfl
    have hcap := h.bs.le
    have hcmx := h.bs.max
    have hN := h.nN
    have hn0 := h.n0
    have hn9 := h.n9
    have H := Lib.hid h
    simp only [] at c0 c1 c2 c3 c4 c5 c6 hcap hcmx hN hn0 hn9
    have hNb : N ≤ 262144 := by omega
    have hN1 : 1024 ≤ N := by omega
    have HN := Lib.hid hN
    clear h hN
    simp only [FL.p, FL.pv]
    rw [HL0.out] at HT
    rw [hd] at c3
    clear hd HL0
    simp only [FL.p] at WI DI
    go_enter Try.func48, Try.ntmps48
    go_wp2_with fail
    refine WI.out.mono ?_
    rintro e w' ⟨rfl, rfl⟩
    go_wp2_with fail
    refine DI.out.mono ?_
    rintro e w1 ⟨rfl, q, rfl⟩
    go_wp2
    go_ret
    rw [PG.out]
    exact ⟨rfl, _, ⟨HT.out.at_.later ((Keeps.refl None w).drewN q), (Keeps.refl _ w).drewN q, rfl, rfl, fun _ h => .inl h⟩⟩
  | true =>
  rw [hc] at PF DI
  obtain ⟨K, hK⟩ : ∃ K, m = 8 * K := ⟨m / 8, by omega⟩
  obtain ⟨R, hR⟩ : ∃ R, progW K s i zs = R := ⟨_, rfl⟩
  have PG : Hid (s.progF i zs = R) := by
    show _ = _
    rw [PF.out, if_neg (by decide), if_neg (by decide), if_neg (by omega), if_neg (by decide), ← hR, hK, Nat.mul_div_cancel_left _ (by decide)]
  rw [PG.out]
  have HR := Lib.hid hR
  have HC := Lib.hid hc
  have HML := Lib.hid hml
  have HB := Lib.hid hb
  have HA := Lib.hid hA
  have hK8 : m ≤ 262144 := by have := h.nN; have := h.n9; omega
  have HK := Lib.hid hK
  obtain ⟨st1, st2⟩ := hst
  clear hb hA hc PF PG hR hml HT hK
  obtain ⟨bf, gb, ge, N, capb, n, af, pA, pc, pk⟩ := L
  have c0 := h.f.cellD 0 _ rfl
  have c1 := h.f.cellD 1 _ rfl
  have c2 := h.f.cellD 2 _ rfl
  have c3 := h.f.cellD 3 _ rfl
  have c4 := h.f.cellD 4 _ rfl
  have c5 := h.f.cellD 5 _ rfl
  have c6 := h.f.cellD 6 _ rfl
  have hcap := h.bs.le
  have hcmx := h.bs.max
  have hN := h.nN
  have hn0 := h.n0
  have hn9 := h.n9
  have H := Lib.hid h
  simp only [] at c0 c1 c2 c3 c4 c5 c6 hcap hcmx hN hn0 hn9
  have hNb : N ≤ 262144 := by omega
  have hN1 : 1024 ≤ N := by omega
  have HN := Lib.hid hN
  clear h hN
  simp only [FL.p, FL.pv]
  rw [hd] at c3
  clear hd HL0
  simp only [FL.p] at WI DI
  simp only [FL.S] at HA
  simp only [] at hij
  go_enter Try.func48, Try.ntmps48
  go_wp2_with fail
  refine WI.out.mono ?_
  rintro e w' ⟨rfl, rfl⟩
  go_wp2_with fail
  refine DI.out.mono ?_
  rintro e w1 ⟨rfl, q0, rfl⟩
  go_wp2
  have D0 : Hid (Keeps (fun k => k = bf ∨ k = gb ∨ k = ge) w (w.drewN q0)) := (Keeps.refl _ w).drewN q0
  have H0 := Lib.hid (H.out.later ((Keeps.refl None w).drewN q0))
  clear WI DI c0 c1 c2 c3 c4 c5 c6
  go_loopw [7] (fun iv wr => ∃ (j : Nat) (s1 : FS) (af1 : Int), j ≤ K ∧ iv = .int .i64 (8 * j : Nat) ∧ FAt wr B ⟨bf, gb, ge, N, capb, n, af1, pA, pc, pk⟩ s1 ∧ Keeps (fun k => k = bf ∨ k = gb ∨ k = ge) w wr ∧ progW (K - j) s1 (i + 8 * j) (zs.drop (8 * j)) = R ∧ canN ((s1.b.drop (i + 8 * j)).take (8 * (K - j))) (zs.drop (8 * j)) = true ∧ 0 ≤ s1.steps ∧ s1.steps + (K - j : Nat) ≤ 1000000000000) (fun iv _ => 8 * K - (intOf iv).toNat)
  case atStart =>
    refine ⟨0, s, af, Nat.zero_le _, rfl, H0.out, D0.out, by simpa using HR.out, ?_, st1, by have := HK.out; omega⟩
    have := HC.out
    rw [HK.out] at this
    simpa using this
  case round =>
    obtain ⟨j, s1, af1, hjK, rfl, hF, hKp, hpr, hcn, hs1, hs2⟩ := hrel
    obtain ⟨wv, rfl⟩ : ∃ x, x = wr := ⟨_, rfl⟩
    clear H0 D0
    by_cases hlt : j < K
    · obtain ⟨k, hk⟩ : ∃ k, K - j = k + 1 := ⟨K - j - 1, by omega⟩
      rw [hk] at hpr hcn hs2
      obtain ⟨iv, hiv⟩ : ∃ iv, 8 * j = iv := ⟨_, rfl⟩
      obtain ⟨p, hp⟩ : ∃ p, i + iv = p := ⟨_, rfl⟩
      rw [hiv] at hpr hcn ⊢
      rw [hp] at hpr hcn
      have hm8 : iv + 8 ≤ m := by have := HK.out; omega
      have hpN : p + 8 ≤ N := by omega
      have x1 : decide (iv < m) = true := decide_eq_true (by omega)
      have x2 : decide ((iv : Int) < m) = true := decide_eq_true (by omega)
      have CW := Lib.hid (can_word hcn)
      have HF := Lib.hid hF
      have HKp := Lib.hid hKp
      have y0 := hF.f.cellD 0 _ rfl
      simp only [] at y0
      obtain ⟨bb, bo, hAe, hbb, -⟩ := HB.out.at_ (by omega)
      subst hAe
      have NS1 := HA.out bb bo (by omega) rfl
      have ce : ¬ c = iv := by omega
      have cpe : ¬ capb = p := by omega
      have w1 : IntKind.i64.wrap ((i : Int) + iv) = p := by rw [show (i : Int) + iv = (p : Int) by omega]; exact wrap_nat _ (by omega)
      have w2 : IntKind.i64.wrap ((p : Int) + 8) = p + 8 := IntWalk.i64_in _ (by omega)
      have w3 : IntKind.i64.wrap ((iv : Int) + 8) = iv + 8 := IntWalk.i64_in _ (by omega)
      have w4 : p + 8 - p = 8 := by omega
      have w5 : iv + 8 - iv = 8 := by omega
      have BRK := Lib.hid (fun w' (hh : FAt w' B ⟨bf, gb, ge, N, capb, n, af1, pA, pc, pk⟩ s1) => fbroken_any B _ s1 w' hh ⟨hs1, by omega⟩)
      have BW := Lib.hid (fun w' (hh : Keeps (fun k => k = bf ∨ k = gb ∨ k = ge) w w') => Bs.take (k := 8) ((HB.out.keeps hh (fun b off _ _ e => by cases e; exact NS1)).drop (k := iv) (by omega)) (by omega))
      have HCN := Lib.hid hcn
      have HPR := Lib.hid hpr
      have LEN8 : Hid (((zs.drop iv).take 8).length = 8) := by show ((zs.drop iv).take 8).length = 8; rw [List.length_take, List.length_drop, HML.out]; omega
      have ST := Lib.hid (stepped_steps_le (s := s1) (a := (k : Int)) (b := 1000000000000) hs1 (by omega))
      have E8 : Hid (8 * (j + 1) = iv + 8) := by show 8 * (j + 1) = iv + 8; omega
      have EKj : Hid (K - (j + 1) = k) := by show K - (j + 1) = k; omega
      have EP : Hid (i + (iv + 8) = p + 8) := by show i + (iv + 8) = p + 8; omega
      clear hF hKp hcn hpr hs1 hs2 hiv hp hk
      go_wp2
      obtain ⟨mS, mh⟩ : ∃ S : World → Prop, ∀ w', S w' ↔ (w'.cell? ⟨bf, 0, none⟩ = some (.slice (some ⟨gb, 0, none⟩) N capb)) := ⟨_, fun _ => Iff.rfl⟩
      have mk0 : ∀ x : Memb mS, x.at_.cell? ⟨bf, 0, none⟩ = some (.slice (some ⟨gb, 0, none⟩) N capb) := fun x => ((mh _).1 x.is)
      have mn : Nonempty (Memb mS) := ⟨⟨(wv).drew, (mh _).2 (y0)⟩⟩
      have mH := Lib.hid mh
      clear mh
      refine wp_region_mix [] (InS mS) (by kernel_rfl) (by kernel_rfl) (InS.mk ((mH.out _).2 (y0))) ?_
      refine wpMix_seg 19 (by kernel_rfl) (by decide) ?_
      simp only [List.take_succ_cons, List.take_zero, List.drop_succ_cons, List.drop_zero]
      repeat (go_big_quiet_step (fail))
      refine wpQuiet_nil ?_
      refine wpMix_nil ?_
      clear mk0 mn mH
      rw [w4, w5]
      clear w1 w2 w3 w4 w5 y0
      by_cases h0 : s1.left = 0
      · have EL : Hid (decide (s1.left = 0) = true) := decide_eq_true h0
        have ER := Lib.hid (progW_cut HPR.out h0)
        have hpk := (HF.out.armed (by omega)).2
        simp only [] at hpk
        have HPK := Lib.hid hpk
        rw [← HPK.out] at ER
        clear h0 hpk HPK
        go_wp2_with fail
        refine (BRK.out _ HF.out.drew).mono ?_
        rintro e w2 ⟨rfl, kb, af2, hf2⟩
        rw [EL.out]
        have y6 := hf2.f.cellD 6 _ rfl
        simp only [] at y6
        have K2 : Hid (Keeps (fun k => k = bf ∨ k = gb ∨ k = ge) w w2) := HKp.out.drew.trans kb (fun _ h => h) (fun _ _ h => .inl h)
        have F2 := Lib.hid hf2
        have C2 : Hid (Bs w2 (some ⟨gb, p, none⟩) 8 (capb - p) ((s1.b.drop p).take 8)) := by have := hf2.cut (i := p) (j := 8) hpN; rwa [FS.stepped_b] at this
        have P2 : Hid (Bs w2 pA pk.length pc pk) := ownBs (show Own w2 B (.slice pA pk.length pc) pk from hf2.p)
        have W2 := Lib.hid (BW.out w2 K2.out)
        clear kb hf2 HF HKp BW BRK
        go_wp2_with fail
        refine (torn_any _ _ _ _ _ _ _ _ _ _ _ _ _ C2.out W2.out P2.out (by omega)).mono ?_
        rintro e w3 ⟨v3, rfl, o3, k3⟩
        obtain ⟨A3, c3, rfl, bs3, -⟩ := o3.shape
        have TL := tornN_len8 (ps := pk) CW.out
        rw [LEN8.out] at TL
        rw [TL] at bs3 ⊢
        have TT : Hid ((tornN ((s1.b.drop p).take 8) ((zs.drop iv).take 8) pk).take 8 = tornN ((s1.b.drop p).take 8) ((zs.drop iv).take 8) pk) := List.take_of_length_le (by omega)
        have B3 := Lib.hid bs3
        have F3 := Lib.hid (F2.out.later k3)
        have K3 : Hid (Keeps (fun k => k = bf ∨ k = gb ∨ k = ge) w w3) := K2.out.trans k3 (fun _ h => h) (fun _ _ h => h.elim)
        clear o3 k3 bs3 TL
        go_wp2_with (with_reducible refine wpList_copy_bs (B := B) (g := gb) (off := p) (n := N) (cap := capb) rfl rfl rfl rfl (by first | (intro _; rfl) | (intro h0; omega)) F3.out.b B3.out (by omega) ?_)
        intro w4 o4 k4
        rw [TT.out] at o4
        have O4 := Lib.hid o4
        have K4 := Lib.hid k4
        clear o4 k4
        go_wp2
        go_ret
        have F4 := F3.out.bytes K4.out O4.out
        rw [FS.stepped_b] at F4
        refine ⟨by rw [ER.out]; rfl, ⟨bf, gb, ge, N, capb, n, af2, pA, pc, pk⟩, ?_, (K3.out.trans K4.out (T := fun k => k = bf ∨ k = gb ∨ k = ge) (fun _ h => h) (fun _ _ h => .inr (.inl h))).mono (fun _ _ h => .inl h), rfl, rfl, fun _ h => .inl h⟩
        rw [ER.out]
        exact F4
      · have EL : Hid (decide (s1.left = 0) = false) := decide_eq_false h0
        have ER := Lib.hid (progW_go HPR.out h0)
        clear h0
        go_wp2_with fail
        refine (BRK.out _ HF.out.drew).mono ?_
        rintro e w2 ⟨rfl, kb, af2, hf2⟩
        rw [EL.out]
        have K2 : Hid (Keeps (fun k => k = bf ∨ k = gb ∨ k = ge) w w2) := HKp.out.drew.trans kb (fun _ h => h) (fun _ _ h => .inl h)
        have F2 := Lib.hid hf2
        have C2 : Hid (Bs w2 (some ⟨gb, p, none⟩) 8 (capb - p) ((s1.b.drop p).take 8)) := by have := hf2.cut (i := p) (j := 8) hpN; rwa [FS.stepped_b] at this
        have W2 := Lib.hid (BW.out w2 K2.out)
        have BL := Lib.hid HF.out.bl
        clear kb hf2 HF HKp BW BRK
        go_wp2_with fail
        refine (program_any _ _ _ _ _ _ _ _ _ C2.out W2.out (by omega)).mono ?_
        rintro e w3 ⟨v3, rfl, o3, k3⟩
        rw [show progN ((s1.b.drop p).take 8) ((zs.drop iv).take 8) = (zs.drop iv).take 8 from if_pos CW.out] at o3
        obtain ⟨A3, c3, rfl, bs3, -⟩ := o3.shape
        rw [LEN8.out] at bs3 ⊢
        have TT : Hid (((zs.drop iv).take 8).take 8 = (zs.drop iv).take 8) := List.take_of_length_le (by rw [LEN8.out]; exact Nat.le_refl _)
        have B3 := Lib.hid bs3
        have F3 := Lib.hid (F2.out.later k3)
        have K3 : Hid (Keeps (fun k => k = bf ∨ k = gb ∨ k = ge) w w3) := K2.out.trans k3 (fun _ h => h) (fun _ _ h => h.elim)
        clear o3 k3 bs3
        go_wp2_with (with_reducible refine wpList_copy_bs (B := B) (g := gb) (off := p) (n := N) (cap := capb) rfl rfl rfl rfl (by first | (intro _; rfl) | (intro h0; omega)) F3.out.b B3.out (by omega) ?_)
        intro w4 o4 k4
        rw [TT.out, FS.stepped_b] at o4
        have F4 := Lib.hid (F3.out.bytes k4 o4)
        have K4 : Hid (Keeps (fun k => k = bf ∨ k = gb ∨ k = ge) w w4) := K3.out.trans k4 (fun _ h => h) (fun _ _ h => .inr (.inl h))
        clear o4 k4
        go_wp2
        go_roundw
        case rel =>
          refine ⟨j + 1, _, af2, hlt, val_int (by rw [E8.out]; omega), F4.out, K4.out, ?_, ?_, ?_, ?_⟩
          · rw [EKj.out, E8.out, EP.out, ← ER.out, List.drop_drop]
          · rw [EKj.out, E8.out, EP.out]
            exact can_rest LEN8.out (by rw [BL.out]; exact hpN) HCN.out
          · exact ST.out.1
          · rw [EKj.out]; exact ST.out.2
        case measure => have := E8.out; simp [intOf]; omega
    · obtain rfl : j = K := by omega
      rw [Nat.sub_self] at hpr
      have ER : Hid (R = (s1, 0)) := hpr.symm
      have HF := Lib.hid hF
      have HKp := Lib.hid hKp
      have x1 : decide (8 * j < m) = false := decide_eq_false (by have := HK.out; omega)
      have x2 : decide (8 * (j : Int) < m) = false := decide_eq_false (by have := HK.out; omega)
      have x3 : decide (((8 * j : Nat) : Int) < m) = false := decide_eq_false (by have := HK.out; omega)
      clear hF hKp hpr hcn hs1 hs2
      go_wp2
      go_ret
      refine ⟨by rw [ER.out]; rfl, ⟨bf, gb, ge, N, capb, n, af1, pA, pc, pk⟩, ?_, HKp.out.mono (fun _ _ h => .inl h), rfl, rfl, fun _ h => .inl h⟩
      rw [ER.out]
      exact HF.out
end Go.Proofs.Ytgehkioneelgcaa
