/- The walks of the reference's flash: Arm, Boot, Spoil, Erases. -/
import Derived.Test.YtngofnlhbhfigaaRfMem
namespace Go.Proofs.Ytngofnlhbhfigaa
open Go.RowKit

/-- Bytes beside the reference's flash. -/
structure Rb (w : World) (L : RL) (A : Option Addr) (n cap : Nat) (zs : List Int) : Prop where
  bs : Bs w A n cap zs
  ap : ∀ b off, 0 < n → A = some ⟨b, off, none⟩ → ¬ L.O b
theorem Rb.later {w w' : World} {L : RL} {A : Option Addr} {n cap : Nat} {zs : List Int} (h : Rb w L A n cap zs) (hk : Keeps None w w') : Rb w' L A n cap zs := ⟨h.bs.keeps hk (fun _ _ _ _ _ h => h), h.ap⟩
theorem Rb.turn {w w' : World} {B : Nat} {L L' : RL} {s' : FS} {A : Option Addr} {n cap : Nat} {zs : List Int} (h : Rb w L A n cap zs) (t : RTurn w w' B L L' s') : Rb w' L' A n cap zs :=
  ⟨h.bs.keeps t.keeps (fun b off h0 _ e => h.ap b off h0 e), fun b off h0 e hO => by
    obtain ⟨b', off', e', hb, _⟩ := h.bs.at_ h0
    rw [e] at e'
    cases e'
    rcases t.o b hO with h1 | h1
    · exact h.ap b off h0 e h1
    · omega⟩
def FS.armR (s : FS) (after : Int) (pick : List Int) : FS := if after < 0 then { s with left := -1, pick := [] } else { s with left := min after 4611686018427387904, pick := pick }

theorem RAt.rearm {w w1 w' : World} {B : Nat} {L : RL} {s s' : FS} {A : Option Addr} {c : Nat} {ps : List Int} (h : RAt w B L s) (k1 : Keeps (fun k => k = L.bf) w w1) (o1 : Own w1 w.heap.size (.slice A ps.length c) ps) (hk : Keeps (fun k => k = L.bf) w1 w')
    (hf : Blk w' L.bf [.slice (some ⟨L.gb, 0, none⟩) L.N L.capb, .slice (some ⟨L.ge, 0, none⟩) L.n L.n, .int .i64 s'.steps, .int .i64 s'.left, .slice A ps.length c, .bool s'.dark] 51)
    (hb : s'.b = s.b) (he : s'.er = s.er) (ha : 0 ≤ s'.left → ps = s'.pick) (hm : -1 ≤ s'.left) (hx : s'.left ≤ 9223372036854775807) (hpl : ps.length ≤ 1099511627776) :
    RTurn w w' B L { L with pA := A, pc := c, pk := ps } s' := by
  have hbf : L.bf < w.heap.size := h.lt _ (.inl (.inl rfl))
  have hnew : ∀ g, (Value.slice A ps.length c).ownBlock = some g → w.heap.size ≤ g := fun g hg => Nat.le_of_not_lt fun hlt => o1.notBelow hlt hg
  have k2 : Keeps (fun k => k = L.bf) w w' := k1.trans hk (fun _ h => h) (fun _ _ h => h)
  refine ⟨⟨hf, by rw [hb]; exact h.b.keeps k2 (fun b e => by cases e; exact fun e => h.d1 e.symm), by rw [he]; exact k2.blk h.e (fun e => h.d2 e.symm), ?_, by rw [he]; exact h.el, ha, hm, hx, h.nN, h.n0, h.n9, h.bB, h.eB, h.d1, h.d2, h.d3, ?_, hpl⟩,
    k2.mono (fun i _ e => .inl (.inl e)), rfl, rfl, ?_⟩
  · exact (o1.lower (Nat.le_trans h.bB (Nat.le_of_lt hbf))).keeps hk (fun b e hb => by have := hnew b e; subst hb; omega)
  · intro g hg hS
    have h1 := hnew g hg
    have h2 := h.lt g (.inl hS)
    omega
  · intro k hk'
    rcases hk' with hS | hp
    · exact .inl (.inl hS)
    · exact .inr (hnew k hp)
theorem RTurn.ofBytes {w w' : World} {B : Nat} {L : RL} {s' : FS} (hk : Keeps (fun k => k = L.gb) w w') (h : RAt w' B L s') : RTurn w w' B L L s' :=
  ⟨h, hk.mono (fun _ _ e => .inl (.inr (.inl e))), rfl, rfl, fun _ h => .inl h⟩

set_option maxRecDepth 100000 in
theorem rfboot_any (B : Nat) (L : RL) (s : FS) (q : Nat) (w : World) (h : RAt w B L s) (hq : L.bf = q) : Calls Try.prog 64 #[.pointer (some ⟨q, 0, none⟩)] w fun e w' => e = .returned (.tuple #[]) ∧ ∃ L', RTurn w w' B L L' s.bootF := by
  obtain ⟨bf, gb, ge, N, capb, n, pA, pc, pk⟩ := L
  simp only [] at hq
  subst hq
  have c0 := h.f.cellD 0 _ rfl
  have c1 := h.f.cellD 1 _ rfl
  have c2 := h.f.cellD 2 _ rfl
  have c3 := h.f.cellD 3 _ rfl
  have c4 := h.f.cellD 4 _ rfl
  have c5 := h.f.cellD 5 _ rfl
  have hcap := h.bs.le
  have hcmx := h.bs.max
  have hN := h.nN
  have hn0 := h.n0
  have hn9 := h.n9
  have H := Lib.hid h
  simp only [] at c0 c1 c2 c3 c4 c5 hcap hcmx hN hn0 hn9
  have hNb : N ≤ 262144 := by omega
  have hN1 : 1024 ≤ N := by omega
  have HN := Lib.hid hN
  clear h hN
  have z0 := H.out.f.frozen 0
  have z1 := H.out.f.frozen 1
  have z2 := H.out.f.frozen 2
  have z3 := H.out.f.frozen 3
  have z4 := H.out.f.frozen 4
  have z5 := H.out.f.frozen 5
  simp only [] at z0 z1 z2 z3 z4 z5
  go_enter Try.func64, Try.ntmps64
  go_wp2
  go_end0
  refine ⟨rfl, _, H.out.rearm (s' := s.bootF) (A := none) (c := 0) (ps := []) (Keeps.refl _ w) (Own.nil _ _) ((((Keeps.self bf w).put 5 (.bool false)).put 3 (.int .i64 (-1))).put 4 (.slice none 0 0)) (((H.out.f.set 5 (.bool false)).set 3 (.int .i64 (-1))).set 4 (.slice none 0 0)) rfl rfl (fun h => absurd h (show ¬ (0 : Int) ≤ -1 by decide)) (show (-1 : Int) ≤ -1 by decide) (show (-1 : Int) ≤ 9223372036854775807 by decide) (by decide)⟩

set_option maxRecDepth 100000 in
theorem rfarm_any (B : Nat) (L : RL) (s : FS) (q : Nat) (after : Int) (A : Option Addr) (m c : Nat) (ps : List Int) (w : World) (h : RAt w B L s) (hq : L.bf = q) (hb : Rb w L A m c ps) (hm : m ≤ 1099511627776) :
    Calls Try.prog 63 #[.pointer (some ⟨q, 0, none⟩), .int .i64 after, .slice A m c] w fun e w' => e = .returned (.tuple #[]) ∧ ∃ L', RTurn w w' B L L' (s.armR after ps) := by
  have CP := Lib.hid (fun w => cap_any after (-1) 4611686018427387904 (by decide) w)
  obtain ⟨lf, hlf⟩ : ∃ x, max (-1) (min after 4611686018427387904) = x := ⟨_, rfl⟩
  rw [hlf] at CP
  have AF : Hid ((s.armR after ps).steps = s.steps ∧ (s.armR after ps).dark = s.dark ∧ (s.armR after ps).left = lf ∧ (s.armR after ps).b = s.b ∧ (s.armR after ps).er = s.er ∧ (0 ≤ (s.armR after ps).left → ps = (s.armR after ps).pick) ∧ -1 ≤ (s.armR after ps).left ∧ (s.armR after ps).left ≤ 9223372036854775807) := by
    show _ ∧ _
    unfold FS.armR
    split
    · rename_i q
      exact ⟨rfl, rfl, by show (-1 : Int) = lf; omega, rfl, rfl, fun h => absurd h (show ¬ (0 : Int) ≤ -1 by decide), (show (-1 : Int) ≤ -1 by decide), (show (-1 : Int) ≤ 9223372036854775807 by decide)⟩
    · rename_i q
      exact ⟨rfl, rfl, by show min after 4611686018427387904 = lf; omega, rfl, rfl, fun _ => rfl, by show -1 ≤ min after 4611686018427387904; omega, by show min after 4611686018427387904 ≤ 9223372036854775807; omega⟩
  clear hlf
  generalize s.armR after ps = s' at *
  have hle := hb.bs.le
  have hmx := hb.bs.max
  have HB := Lib.hid (fun w1 (hk : Keeps (fun k => k = L.bf) w w1) => hb.bs.keeps hk (fun b off h0 _ e e2 => hb.ap b off h0 e (.inl (.inl e2))))
  have HL := Lib.hid hb.bs.len
  clear hb
  obtain ⟨bf, gb, ge, N, capb, n, pA, pc, pk⟩ := L
  simp only [] at hq
  subst hq
  have c0 := h.f.cellD 0 _ rfl
  have c1 := h.f.cellD 1 _ rfl
  have c2 := h.f.cellD 2 _ rfl
  have c3 := h.f.cellD 3 _ rfl
  have c4 := h.f.cellD 4 _ rfl
  have c5 := h.f.cellD 5 _ rfl
  have hcap := h.bs.le
  have hcmx := h.bs.max
  have hN := h.nN
  have hn0 := h.n0
  have hn9 := h.n9
  have H := Lib.hid h
  simp only [] at c0 c1 c2 c3 c4 c5 hcap hcmx hN hn0 hn9
  have hNb : N ≤ 262144 := by omega
  have hN1 : 1024 ≤ N := by omega
  have HN := Lib.hid hN
  clear h hN
  have z0 := H.out.f.frozen 0
  have z1 := H.out.f.frozen 1
  have z2 := H.out.f.frozen 2
  have z3 := H.out.f.frozen 3
  have z4 := H.out.f.frozen 4
  have z5 := H.out.f.frozen 5
  simp only [] at z0 z1 z2 z3 z4 z5
  simp only [] at HB
  go_enter Try.func63, Try.ntmps63
  go_wp2_with fail
  refine (CP.out _).mono ?_
  rintro e w' ⟨rfl, rfl⟩
  go_wp2_with (at_builtin; refine Hid.out ?_)
  refine Lib.hid ?_
  have K1 : Hid (Keeps (fun k => k = bf) w (w.setCell ⟨bf, 3, none⟩ (.int .i64 lf))) := (Keeps.self bf w).put 3 _
  have F1 := Lib.hid (H.out.f.set 3 (.int .i64 lf))
  have B1 := Lib.hid (HB.out _ K1.out)
  generalize w.setCell ⟨bf, 3, none⟩ (.int .i64 lf) = w1 at *
  refine wpList_append_bs (Own.nil _ w.heap.size) B1.out (by simp; omega) K1.out.size rfl rfl rfl rfl rfl ?_
  intro v3 w3 ho3 hk3
  rw [List.nil_append] at ho3
  obtain ⟨A3, cap3, rfl, bs3, -⟩ := ho3.shape
  have O3 := Lib.hid ho3
  have K3 : Hid (Keeps None w1 w3) := hk3.mono (fun i hi e => by simp [Value.ownBlock] at e)
  have F3 := Lib.hid (K3.out.blk F1.out (fun h => h))
  clear ho3 hk3 bs3 c0 c1 c2 c3 c4 c5 z0 z1 z2 z3 z4 z5
  have y4 := F3.out.cellD 4 _ rfl
  have z4 := F3.out.frozen 4
  go_wp2
  go_end0
  obtain ⟨f1, f2, f3, f4, f5, f6, f7, f8⟩ := AF.out
  have hk : Keeps (fun k => k = bf) w3 (w3.setCell ⟨bf, 4, none⟩ (.slice A3 ps.length cap3)) := (Keeps.self bf w3).put 4 _
  have hbk := F3.out.set 4 (.slice A3 ps.length cap3)
  refine ⟨rfl, _, H.out.rearm (K1.out.trans K3.out (fun _ h => h) (fun _ _ h => h.elim)) O3.out hk (s' := s') ?_ f4 f5 f6 f7 f8 (by rw [HL.out]; exact hm)⟩
  rw [f1, f2, f3]
  exact hbk

set_option maxRecDepth 100000 in
theorem rfspoil_any (B : Nat) (L : RL) (s : FS) (q : Nat) (a : Int) (A : Option Addr) (m c : Nat) (zs : List Int) (w : World) (h : RAt w B L s) (hq : L.bf = q) (hb : Rb w L A m c zs) :
    Calls Try.prog 81 #[.pointer (some ⟨q, 0, none⟩), .int .i64 a, .slice A m c] w fun e w' => e = .returned (.int .i64 (s.spoilF a zs).2) ∧ ∃ L', RTurn w w' B L L' (s.spoilF a zs).1 := by
  have hnn := h.n9
  have hnN := h.nN
  have WI := Lib.hid (fun w => rfwithin_any a m L.N (by omega) w)
  have hbl := h.bl
  have hml := hb.bs.len
  have hsf : s.spoilF a zs = if withinB a m L.N = true then ({ s with b := splice s.b a.toNat zs }, 0) else (s, 2) := by unfold FS.spoilF; rw [hbl, hml]
  have hle := hb.bs.le
  have hmx := hb.bs.max
  have HT := Lib.hid (RTurn.self h)
  cases hw : withinB a m L.N with
  | false =>
    rw [hw] at WI hsf
    rw [if_neg (by decide)] at hsf
    rw [hsf]
    clear hsf hw hbl hml hb hnn hnN
    obtain ⟨bf, gb, ge, N, capb, n, pA, pc, pk⟩ := L
    simp only [] at hq
    subst hq
    have c0 := h.f.cellD 0 _ rfl
    have c1 := h.f.cellD 1 _ rfl
    have c2 := h.f.cellD 2 _ rfl
    have c3 := h.f.cellD 3 _ rfl
    have c4 := h.f.cellD 4 _ rfl
    have c5 := h.f.cellD 5 _ rfl
    have hcap := h.bs.le
    have hcmx := h.bs.max
    have hN := h.nN
    have hn0 := h.n0
    have hn9 := h.n9
    have H := Lib.hid h
    simp only [] at c0 c1 c2 c3 c4 c5 hcap hcmx hN hn0 hn9
    have hNb : N ≤ 262144 := by omega
    have hN1 : 1024 ≤ N := by omega
    have HN := Lib.hid hN
    clear h hN
    simp only [] at WI
    go_enter Try.func81, Try.ntmps81
    go_wp2_with fail
    refine (WI.out _).mono ?_
    rintro e w' ⟨rfl, rfl⟩
    go_wp2
    go_ret
    exact ⟨rfl, _, HT.out⟩
  | true =>
    rw [hw] at WI hsf
    rw [if_pos rfl] at hsf
    obtain ⟨i, j, rfl, hj, hij⟩ := within_nat hw
    obtain rfl : m = j := by omega
    rw [hsf]
    simp only [Int.toNat_natCast]
    have ST := Lib.hid (rfset_any B L s q i A m c zs w h hq hb.bs hij (fun b off h0 e e2 => hb.ap b off h0 e (.inl (.inr (.inl e2)))))
    clear hsf hw hbl hml hj hb HT hnn hnN
    obtain ⟨bf, gb, ge, N, capb, n, pA, pc, pk⟩ := L
    simp only [] at hq
    subst hq
    have c0 := h.f.cellD 0 _ rfl
    have c1 := h.f.cellD 1 _ rfl
    have c2 := h.f.cellD 2 _ rfl
    have c3 := h.f.cellD 3 _ rfl
    have c4 := h.f.cellD 4 _ rfl
    have c5 := h.f.cellD 5 _ rfl
    have hcap := h.bs.le
    have hcmx := h.bs.max
    have hN := h.nN
    have hn0 := h.n0
    have hn9 := h.n9
    have H := Lib.hid h
    simp only [] at c0 c1 c2 c3 c4 c5 hcap hcmx hN hn0 hn9
    have hNb : N ≤ 262144 := by omega
    have hN1 : 1024 ≤ N := by omega
    have HN := Lib.hid hN
    clear h hN
    simp only [] at WI ST
    go_enter Try.func81, Try.ntmps81
    go_wp2_with fail
    refine (WI.out _).mono ?_
    rintro e w' ⟨rfl, rfl⟩
    go_wp2_with fail
    refine ST.out.mono ?_
    rintro e w2 ⟨rfl, h2, k2⟩
    have H2 := Lib.hid h2
    have K2 := Lib.hid k2
    clear h2 k2
    go_wp2
    go_ret
    exact ⟨rfl, _, RTurn.ofBytes K2.out H2.out⟩

set_option maxRecDepth 100000 in
theorem rferases_any (B : Nat) (L : RL) (s : FS) (q : Nat) (k : Int) (w : World) (h : RAt w B L s) (hq : L.bf = q) : Calls Try.prog 38 #[.pointer (some ⟨q, 0, none⟩), .int .i64 k] w (Same (.int .i64 (s.erasesF k)) w) := by
  have hel := h.el
  have EF : Hid (s.erasesF k = if k < 0 ∨ (L.n : Int) ≤ k then 0 else s.er.getD k.toNat 0) := by show _ = _; unfold FS.erasesF; rw [hel]
  by_cases q1 : k < 0
  · have d1 : decide (k < 0) = true := decide_eq_true q1
    have EG : Hid (s.erasesF k = 0) := by show _ = _; rw [EF.out, if_pos (.inl q1)]
    clear EF hel
    obtain ⟨bf, gb, ge, N, capb, n, pA, pc, pk⟩ := L
    simp only [] at hq
    subst hq
    have c0 := h.f.cellD 0 _ rfl
    have c1 := h.f.cellD 1 _ rfl
    have c2 := h.f.cellD 2 _ rfl
    have c3 := h.f.cellD 3 _ rfl
    have c4 := h.f.cellD 4 _ rfl
    have c5 := h.f.cellD 5 _ rfl
    have hcap := h.bs.le
    have hcmx := h.bs.max
    have hN := h.nN
    have hn0 := h.n0
    have hn9 := h.n9
    have H := Lib.hid h
    simp only [] at c0 c1 c2 c3 c4 c5 hcap hcmx hN hn0 hn9
    have hNb : N ≤ 262144 := by omega
    have hN1 : 1024 ≤ N := by omega
    have HN := Lib.hid hN
    clear h hN
    go_enter Try.func38, Try.ntmps38
    go_wp2
    go_ret
    exact ⟨ret_int EG.out.symm, rfl⟩
  have d1 : decide (k < 0) = false := decide_eq_false q1
  by_cases q2 : (L.n : Int) ≤ k
  · have d2 : decide ((L.n : Int) ≤ k) = true := decide_eq_true q2
    have EG : Hid (s.erasesF k = 0) := by show _ = _; rw [EF.out, if_pos (.inr q2)]
    clear EF hel
    obtain ⟨bf, gb, ge, N, capb, n, pA, pc, pk⟩ := L
    simp only [] at hq
    subst hq
    have c0 := h.f.cellD 0 _ rfl
    have c1 := h.f.cellD 1 _ rfl
    have c2 := h.f.cellD 2 _ rfl
    have c3 := h.f.cellD 3 _ rfl
    have c4 := h.f.cellD 4 _ rfl
    have c5 := h.f.cellD 5 _ rfl
    have hcap := h.bs.le
    have hcmx := h.bs.max
    have hN := h.nN
    have hn0 := h.n0
    have hn9 := h.n9
    have H := Lib.hid h
    simp only [] at c0 c1 c2 c3 c4 c5 hcap hcmx hN hn0 hn9
    have hNb : N ≤ 262144 := by omega
    have hN1 : 1024 ≤ N := by omega
    have HN := Lib.hid hN
    clear h hN
    simp only [] at d2 q2
    go_enter Try.func38, Try.ntmps38
    go_wp2
    go_ret
    exact ⟨ret_int EG.out.symm, rfl⟩
  obtain ⟨i, rfl⟩ : ∃ i : Nat, k = i := ⟨k.toNat, by omega⟩
  have d2 : decide ((L.n : Int) ≤ i) = false := decide_eq_false q2
  have d3 : decide (L.n ≤ i) = false := decide_eq_false (by omega)
  have hi : i < L.n := by omega
  have hc := h.e.cellD i _ (map_getD 0 (by rw [hel]; exact hi))
  have EG : Hid (s.erasesF i = s.er.getD i 0) := by show _ = _; rw [EF.out, if_neg (by omega), Int.toNat_natCast]
  generalize s.er.getD i 0 = x at *
  clear EF hel q1 q2
  obtain ⟨bf, gb, ge, N, capb, n, pA, pc, pk⟩ := L
  simp only [] at hq
  subst hq
  have c0 := h.f.cellD 0 _ rfl
  have c1 := h.f.cellD 1 _ rfl
  have c2 := h.f.cellD 2 _ rfl
  have c3 := h.f.cellD 3 _ rfl
  have c4 := h.f.cellD 4 _ rfl
  have c5 := h.f.cellD 5 _ rfl
  have hcap := h.bs.le
  have hcmx := h.bs.max
  have hN := h.nN
  have hn0 := h.n0
  have hn9 := h.n9
  have H := Lib.hid h
  simp only [] at c0 c1 c2 c3 c4 c5 hcap hcmx hN hn0 hn9
  have hNb : N ≤ 262144 := by omega
  have hN1 : 1024 ≤ N := by omega
  have HN := Lib.hid hN
  clear h hN
  simp only [] at d2 d3 hi hc
  go_enter Try.func38, Try.ntmps38
  go_wp2
  go_ret
  exact ⟨ret_int EG.out.symm, rfl⟩
end Go.Proofs.Ytngofnlhbhfigaa
