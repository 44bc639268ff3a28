
/- A flash in memory; the walks of the calls that only tell: within, Size, Peek, Read, Off, Erases, Steps. -/
import Derived.Test.YtbefbojeojokjaaJEpa
namespace Go.Proofs.Ytbefbojeojokjaa
open Go.RowKit

/-- Where a flash lies: its own block, its bytes' (N of capb), its erasures' (n); what stands in its field 'after'; its pick. -/
structure FL where
  bf : Nat
  gb : Nat
  ge : Nat
  N : Nat
  capb : Nat
  n : Nat
  af : Int
  pA : Option Addr
  pc : Nat
  pk : List Int
def FL.S (L : FL) (k : Nat) : Prop := k = L.bf ∨ k = L.gb ∨ k = L.ge
def FL.pv (L : FL) : Value := .slice L.pA L.pk.length L.pc
def FL.O (L : FL) (k : Nat) : Prop := L.S k ∨ L.pv.ownBlock = some k
def FL.p (L : FL) : Value := .pointer (some ⟨L.bf, 0, none⟩)
structure FAt (w : World) (B : Nat) (L : FL) (s : FS) : Prop where
  f : Blk w L.bf [.slice (some ⟨L.gb, 0, none⟩) L.N L.capb, .slice (some ⟨L.ge, 0, none⟩) L.n L.n, .int .i64 s.steps, .bool s.dark, .bool (decide (0 ≤ s.left)), .int .i64 L.af, .slice L.pA L.pk.length L.pc] 85
  b : Own w B (.slice (some ⟨L.gb, 0, none⟩) L.N L.capb) s.b
  e : Blk w L.ge (s.er.map (.int .i64)) 3
  p : Own w B L.pv L.pk
  el : s.er.length = L.n
  armed : 0 ≤ s.left → L.af = s.left ∧ L.pk = s.pick
  lm : -1 ≤ s.left
  lx : s.left ≤ 9223372036854775807
  nN : L.N = 1024 * L.n
  n0 : 1 ≤ L.n
  n9 : L.n ≤ 256
  bB : B ≤ L.bf
  eB : B ≤ L.ge
  d1 : L.bf ≠ L.gb
  d2 : L.bf ≠ L.ge
  d3 : L.gb ≠ L.ge
  pn : ∀ g, L.pv.ownBlock = some g → ¬ L.S g
theorem FAt.keeps {w w' : World} {B : Nat} {L : FL} {s : FS} {S : Nat → Prop} (h : FAt w B L s) (hk : Keeps S w w') (hS : ∀ k, L.O k → ¬ S k) : FAt w' B L s :=
  ⟨hk.blk h.f (hS _ (.inl (.inl rfl))), h.b.keeps hk (fun b e => by cases e; exact hS _ (.inl (.inr (.inl rfl)))), hk.blk h.e (hS _ (.inl (.inr (.inr rfl)))), h.p.keeps hk (fun b e => hS _ (.inr e)),
    h.el, h.armed, h.lm, h.lx, h.nN, h.n0, h.n9, h.bB, h.eB, h.d1, h.d2, h.d3, h.pn⟩
theorem FAt.later {w w' : World} {B : Nat} {L : FL} {s : FS} (h : FAt w B L s) (hk : Keeps None w w') : FAt w' B L s := h.keeps hk (fun _ _ h => h)
theorem FAt.drew {w : World} {B : Nat} {L : FL} {s : FS} (h : FAt w B L s) : FAt w.drew B L s := h.later (Keeps.refl None w).drew
theorem FAt.alloc {w : World} {B : Nat} {L : FL} {s : FS} (h : FAt w B L s) (o : Obj) : FAt (w.alloc o) B L s := h.later ((Keeps.refl None w).alloc o)
theorem FAt.bs {w : World} {B : Nat} {L : FL} {s : FS} (h : FAt w B L s) : Bs w (some ⟨L.gb, 0, none⟩) L.N L.capb s.b := ownBs h.b
theorem FAt.bl {w : World} {B : Nat} {L : FL} {s : FS} (h : FAt w B L s) : s.b.length = L.N := h.bs.len
theorem FAt.lt {w : World} {B : Nat} {L : FL} {s : FS} (h : FAt w B L s) : ∀ k, L.O k → k < w.heap.size := by
  intro k hk
  rcases hk with (rfl | rfl | rfl) | hp
  · exact h.f.lt
  · obtain ⟨cur, hb, _⟩ := h.b.row; exact hb.lt
  · exact h.e.lt
  · obtain ⟨A, cap, e, _, h3⟩ := h.p.shape
    rw [e] at hp
    cases A with
    | none => cases hp
    | some ad =>
      have hp' : ad.block = k := by simpa [Value.ownBlock] using hp
      rcases h.p.1.2 with ⟨e0, _⟩ | ⟨g, cap', cur, e1, hb, hg, _⟩
      · rw [e] at e0; cases e0
      · rw [e] at e1; cases e1
        obtain rfl : g = k := hp'
        exact (Array.getElem?_eq_some_iff.1 hg).1
theorem FAt.low {w : World} {B : Nat} {L : FL} {s : FS} (h : FAt w B L s) : ∀ k, L.O k → B ≤ k := by
  intro k hk
  rcases hk with (rfl | rfl | rfl) | hp
  · exact h.bB
  · obtain ⟨cur, hb, _, _, _, _, _, h7⟩ := h.b.row; exact h7
  · exact h.eB
  · exact Nat.le_of_not_lt fun hlt => h.p.notBelow hlt hp


set_option maxRecDepth 100000 in
theorem fwithin_any (B : Nat) (L : FL) (s : FS) (a m : Int) (w : World) (h : FAt w B L s) : Calls Try.prog 104 #[L.p, .int .i64 a, .int .i64 m] w (Same (.bool (withinB a m L.N)) w) := by
  obtain ⟨bf, gb, ge, N, capb, n, af, pA, pc, pk⟩ := L
  have c0 := h.f.cellD 0 _ rfl
  have c1 := h.f.cellD 1 _ rfl
  have c2 := h.f.cellD 2 _ rfl
  have c3 := h.f.cellD 3 _ rfl
  have c4 := h.f.cellD 4 _ rfl
  have c5 := h.f.cellD 5 _ rfl
  have c6 := h.f.cellD 6 _ rfl
  have hcap := h.bs.le
  have hcmx := h.bs.max
  have hN := h.nN
  have hn0 := h.n0
  have hn9 := h.n9
  have H := Lib.hid h
  simp only [] at c0 c1 c2 c3 c4 c5 c6 hcap hcmx hN hn0 hn9
  have hNb : N ≤ 262144 := by omega
  have hN1 : 1024 ≤ N := by omega
  have HN := Lib.hid hN
  clear h hN
  simp only [FL.p, FL.pv]
  have WI : Hid (withinB a m N = (decide (0 ≤ a) && decide (0 ≤ m) && decide (a ≤ N) && decide (m ≤ N - a))) := by
    show withinB a m N = _
    unfold withinB
    by_cases q1 : 0 ≤ a <;> by_cases q2 : 0 ≤ m <;> by_cases q3 : a ≤ N <;> by_cases q4 : m ≤ N - a <;> simp [q1, q2, q3, q4]
  by_cases q1 : 0 ≤ a
  · have e1 : decide (0 ≤ a) = true := decide_eq_true q1
    by_cases q2 : 0 ≤ m
    · have e2 : decide (0 ≤ m) = true := decide_eq_true q2
      by_cases q3 : a ≤ N
      · have e3 : decide (a ≤ N) = true := decide_eq_true q3
        rw [e1, e2, e3] at WI
        go_enter Try.func104, Try.ntmps104
        go_wp2
        go_ret
        exact ⟨ret_bool (by rw [WI.out]; simp), rfl⟩
      · have e3 : decide (a ≤ N) = false := decide_eq_false q3
        rw [e1, e2, e3] at WI
        go_enter Try.func104, Try.ntmps104
        go_wp2
        go_ret
        exact ⟨ret_bool (by rw [WI.out]; simp), rfl⟩
    · have e2 : decide (0 ≤ m) = false := decide_eq_false q2
      rw [e1, e2] at WI
      go_enter Try.func104, Try.ntmps104
      go_wp2
      go_ret
      exact ⟨ret_bool (by rw [WI.out]; simp), rfl⟩
  · have e1 : decide (0 ≤ a) = false := decide_eq_false q1
    rw [e1] at WI
    go_enter Try.func104, Try.ntmps104
    go_wp2
    go_ret
    exact ⟨ret_bool (by rw [WI.out]; simp), rfl⟩

set_option maxRecDepth 100000 in
theorem fsize_any (B : Nat) (L : FL) (s : FS) (w : World) (h : FAt w B L s) : Calls Try.prog 62 #[L.p] w (Same (.int .i64 L.N) w) := by
  obtain ⟨bf, gb, ge, N, capb, n, af, pA, pc, pk⟩ := L
  have c0 := h.f.cellD 0 _ rfl
  have c1 := h.f.cellD 1 _ rfl
  have c2 := h.f.cellD 2 _ rfl
  have c3 := h.f.cellD 3 _ rfl
  have c4 := h.f.cellD 4 _ rfl
  have c5 := h.f.cellD 5 _ rfl
  have c6 := h.f.cellD 6 _ rfl
  have hcap := h.bs.le
  have hcmx := h.bs.max
  have hN := h.nN
  have hn0 := h.n0
  have hn9 := h.n9
  have H := Lib.hid h
  simp only [] at c0 c1 c2 c3 c4 c5 c6 hcap hcmx hN hn0 hn9
  have hNb : N ≤ 262144 := by omega
  have hN1 : 1024 ≤ N := by omega
  have HN := Lib.hid hN
  clear h hN
  simp only [FL.p, FL.pv]
  go_enter Try.func62, Try.ntmps62
  go_wp2
  go_ret
  exact ⟨rfl, rfl⟩
theorem foff_any (B : Nat) (L : FL) (s : FS) (w : World) (h : FAt w B L s) : Calls Try.prog 103 #[L.p] w (Same (.bool s.dark) w) := by
  obtain ⟨bf, gb, ge, N, capb, n, af, pA, pc, pk⟩ := L
  have c0 := h.f.cellD 0 _ rfl
  have c1 := h.f.cellD 1 _ rfl
  have c2 := h.f.cellD 2 _ rfl
  have c3 := h.f.cellD 3 _ rfl
  have c4 := h.f.cellD 4 _ rfl
  have c5 := h.f.cellD 5 _ rfl
  have c6 := h.f.cellD 6 _ rfl
  have hcap := h.bs.le
  have hcmx := h.bs.max
  have hN := h.nN
  have hn0 := h.n0
  have hn9 := h.n9
  have H := Lib.hid h
  simp only [] at c0 c1 c2 c3 c4 c5 c6 hcap hcmx hN hn0 hn9
  have hNb : N ≤ 262144 := by omega
  have hN1 : 1024 ≤ N := by omega
  have HN := Lib.hid hN
  clear h hN
  simp only [FL.p, FL.pv]
  go_enter Try.func103, Try.ntmps103
  go_wp2
  go_ret
  exact ⟨rfl, rfl⟩

theorem within_nat {a m : Int} {N : Nat} (h : withinB a m N = true) : ∃ i j : Nat, a = i ∧ m = j ∧ i + j ≤ N := by
  have := of_decide_eq_true h
  exact ⟨a.toNat, m.toNat, by omega, by omega, by omega⟩

set_option maxRecDepth 100000 in
theorem fpeek_any (B : Nat) (L : FL) (s : FS) (a m : Int) (w : World) (h : FAt w B L s) : Calls Try.prog 109 #[L.p, .int .i64 a, .int .i64 m] w (Cloned w (s.peekF a m)) := by
  have WI := Lib.hid (fwithin_any B L s a m w h)
  have hbl := h.bl
  have hpk : s.peekF a m = if withinB a m L.N = true then (s.b.drop a.toNat).take m.toNat else [] := by unfold FS.peekF; rw [hbl]
  cases hw : withinB a m L.N with
  | false =>
    rw [hw] at WI hpk
    rw [if_neg (by decide)] at hpk
    rw [hpk]
    clear hpk hw hbl
    obtain ⟨bf, gb, ge, N, capb, n, af, pA, pc, pk⟩ := L
    have c0 := h.f.cellD 0 _ rfl
    have c1 := h.f.cellD 1 _ rfl
    have c2 := h.f.cellD 2 _ rfl
    have c3 := h.f.cellD 3 _ rfl
    have c4 := h.f.cellD 4 _ rfl
    have c5 := h.f.cellD 5 _ rfl
    have c6 := h.f.cellD 6 _ rfl
    have hcap := h.bs.le
    have hcmx := h.bs.max
    have hN := h.nN
    have hn0 := h.n0
    have hn9 := h.n9
    have H := Lib.hid h
    simp only [] at c0 c1 c2 c3 c4 c5 c6 hcap hcmx hN hn0 hn9
    have hNb : N ≤ 262144 := by omega
    have hN1 : 1024 ≤ N := by omega
    have HN := Lib.hid hN
    clear h hN
    simp only [FL.p, FL.pv]
    simp only [FL.p] at WI
    go_enter Try.func109, Try.ntmps109
    go_wp2_with fail
    refine WI.out.mono ?_
    rintro e w' ⟨rfl, rfl⟩
    go_wp2
    go_ret
    exact ⟨_, rfl, Own.nil _ _, Keeps.refl _ _⟩
  | true =>
    rw [hw] at WI hpk
    rw [if_pos rfl] at hpk
    obtain ⟨i, j, rfl, rfl, hij⟩ := within_nat hw
    rw [hpk]
    simp only [Int.toNat_natCast]
    clear hpk hw hbl
    obtain ⟨bf, gb, ge, N, capb, n, af, pA, pc, pk⟩ := L
    have c0 := h.f.cellD 0 _ rfl
    have c1 := h.f.cellD 1 _ rfl
    have c2 := h.f.cellD 2 _ rfl
    have c3 := h.f.cellD 3 _ rfl
    have c4 := h.f.cellD 4 _ rfl
    have c5 := h.f.cellD 5 _ rfl
    have c6 := h.f.cellD 6 _ rfl
    have hcap := h.bs.le
    have hcmx := h.bs.max
    have hN := h.nN
    have hn0 := h.n0
    have hn9 := h.n9
    have H := Lib.hid h
    simp only [] at c0 c1 c2 c3 c4 c5 c6 hcap hcmx hN hn0 hn9
    have hNb : N ≤ 262144 := by omega
    have hN1 : 1024 ≤ N := by omega
    have HN := Lib.hid hN
    clear h hN
    simp only [FL.p, FL.pv]
    simp only [FL.p] at WI
    simp only [] at hij
    have DB := Lib.hid (Bs.take (k := j) (H.out.bs.drop (k := i) (by show i ≤ N; omega)) (by show j ≤ N - i; omega))
    simp only [Nat.zero_add] at DB
    have hsub : i + j - i = j := by omega
    by_cases hc : capb = i
    · obtain rfl : j = 0 := by omega
      subst hc
      have CL := Lib.hid (clone_any _ _ _ _ w (Bs.empty w ⟨gb, 0, none⟩ 0 (by omega)) (by omega))
      go_enter Try.func109, Try.ntmps109
      go_wp2_with fail
      refine WI.out.mono ?_
      rintro e w' ⟨rfl, rfl⟩
      go_wp2_with fail
      refine CL.out.mono ?_
      rintro e w1 ⟨v1, rfl, o1, k1⟩
      go_wp2
      go_ret
      exact ⟨_, rfl, o1, k1⟩
    · have CL := Lib.hid (clone_any _ _ _ _ w DB.out (by omega))
      go_enter Try.func109, Try.ntmps109
      go_wp2_with fail
      refine WI.out.mono ?_
      rintro e w' ⟨rfl, rfl⟩
      go_wp2_with fail
      refine CL.out.mono ?_
      rintro e w1 ⟨v1, rfl, o1, k1⟩
      go_wp2
      go_ret
      exact ⟨_, rfl, o1, k1⟩
/-- Bytes and an error are told. -/
def ReadTold (w : World) (r : List Int × Int) (e : Ending) (w' : World) : Prop := ∃ v, e = .returned (.tuple #[v, .int .i64 r.2]) ∧ Own w' w.heap.size v r.1 ∧ Keeps None w w'
theorem slice_of_own {w : World} {B : Nat} {v : Value} {zs : List Int} (h : Own w B v zs) : ∃ A c, v = .slice A zs.length c ∧ Bs w A zs.length c zs := by
  obtain ⟨A, c, e, hb, -⟩ := h.shape
  exact ⟨A, c, e, hb⟩

set_option maxRecDepth 100000 in
theorem fread_any (B : Nat) (L : FL) (s : FS) (a m : Int) (w : World) (h : FAt w B L s) : Calls Try.prog 93 #[L.p, .int .i64 a, .int .i64 m] w (ReadTold w (s.readF a m)) := by
  have WI := Lib.hid (fwithin_any B L s a m w h)
  have PK := Lib.hid (fpeek_any B L s a m w h)
  have hbl := h.bl
  have hrf : s.readF a m = if s.dark = true then ([], 5) else if withinB a m L.N = true then (s.peekF a m, 0) else ([], 2) := by
    unfold FS.readF FS.peekF; rw [hbl]
    split
    · rfl
    · split <;> rfl
  cases hd : s.dark with
  | true =>
    rw [hd, if_pos rfl] at hrf
    rw [hrf]
    clear hrf hbl PK WI
    obtain ⟨bf, gb, ge, N, capb, n, af, pA, pc, pk⟩ := L
    have c0 := h.f.cellD 0 _ rfl
    have c1 := h.f.cellD 1 _ rfl
    have c2 := h.f.cellD 2 _ rfl
    have c3 := h.f.cellD 3 _ rfl
    have c4 := h.f.cellD 4 _ rfl
    have c5 := h.f.cellD 5 _ rfl
    have c6 := h.f.cellD 6 _ rfl
    have hcap := h.bs.le
    have hcmx := h.bs.max
    have hN := h.nN
    have hn0 := h.n0
    have hn9 := h.n9
    have H := Lib.hid h
    simp only [] at c0 c1 c2 c3 c4 c5 c6 hcap hcmx hN hn0 hn9
    have hNb : N ≤ 262144 := by omega
    have hN1 : 1024 ≤ N := by omega
    have HN := Lib.hid hN
    clear h hN
    simp only [FL.p, FL.pv]
    rw [hd] at c3
    clear hd
    go_enter Try.func93, Try.ntmps93
    go_wp2
    go_ret2
    exact ⟨_, rfl, Own.nil _ _, Keeps.refl _ _⟩
  | false =>
    rw [hd, if_neg (by decide)] at hrf
    cases hw : withinB a m L.N with
    | false =>
      rw [hw] at WI hrf
      rw [if_neg (by decide)] at hrf
      rw [hrf]
      clear hrf hbl PK hw
      obtain ⟨bf, gb, ge, N, capb, n, af, pA, pc, pk⟩ := L
      have c0 := h.f.cellD 0 _ rfl
      have c1 := h.f.cellD 1 _ rfl
      have c2 := h.f.cellD 2 _ rfl
      have c3 := h.f.cellD 3 _ rfl
      have c4 := h.f.cellD 4 _ rfl
      have c5 := h.f.cellD 5 _ rfl
      have c6 := h.f.cellD 6 _ rfl
      have hcap := h.bs.le
      have hcmx := h.bs.max
      have hN := h.nN
      have hn0 := h.n0
      have hn9 := h.n9
      have H := Lib.hid h
      simp only [] at c0 c1 c2 c3 c4 c5 c6 hcap hcmx hN hn0 hn9
      have hNb : N ≤ 262144 := by omega
      have hN1 : 1024 ≤ N := by omega
      have HN := Lib.hid hN
      clear h hN
      simp only [FL.p, FL.pv]
      rw [hd] at c3
      clear hd
      simp only [FL.p] at WI
      go_enter Try.func93, Try.ntmps93
      go_wp2_with fail
      refine WI.out.mono ?_
      rintro e w' ⟨rfl, rfl⟩
      go_wp2
      go_ret2
      exact ⟨_, rfl, Own.nil _ _, Keeps.refl _ _⟩
    | true =>
      rw [hw] at WI hrf
      rw [if_pos rfl] at hrf
      rw [hrf]
      generalize s.peekF a m = ps at *
      clear hrf hbl hw
      obtain ⟨bf, gb, ge, N, capb, n, af, pA, pc, pk⟩ := L
      have c0 := h.f.cellD 0 _ rfl
      have c1 := h.f.cellD 1 _ rfl
      have c2 := h.f.cellD 2 _ rfl
      have c3 := h.f.cellD 3 _ rfl
      have c4 := h.f.cellD 4 _ rfl
      have c5 := h.f.cellD 5 _ rfl
      have c6 := h.f.cellD 6 _ rfl
      have hcap := h.bs.le
      have hcmx := h.bs.max
      have hN := h.nN
      have hn0 := h.n0
      have hn9 := h.n9
      have H := Lib.hid h
      simp only [] at c0 c1 c2 c3 c4 c5 c6 hcap hcmx hN hn0 hn9
      have hNb : N ≤ 262144 := by omega
      have hN1 : 1024 ≤ N := by omega
      have HN := Lib.hid hN
      clear h hN
      simp only [FL.p, FL.pv]
      rw [hd] at c3
      clear hd
      simp only [FL.p] at WI PK
      go_enter Try.func93, Try.ntmps93
      go_wp2_with fail
      refine WI.out.mono ?_
      rintro e w' ⟨rfl, rfl⟩
      go_wp2_with fail
      refine PK.out.mono ?_
      rintro e w1 ⟨v1, rfl, o1, k1⟩
      go_wp2
      go_ret2
      exact ⟨_, rfl, o1, k1⟩

set_option maxRecDepth 100000 in
theorem ferases_any (B : Nat) (L : FL) (s : FS) (k : Int) (w : World) (h : FAt w B L s) : Calls Try.prog 20 #[L.p, .int .i64 k] w (Same (.int .i64 (s.erasesF k)) w) := by
  have hel := h.el
  have hef : s.erasesF k = if k < 0 ∨ (L.n : Int) ≤ k then 0 else s.er.getD k.toNat 0 := by unfold FS.erasesF; rw [hel]
  have he := h.e
  by_cases q1 : k < 0
  · rw [if_pos (.inl q1)] at hef
    rw [hef]
    clear hef hel he
    have d1 : decide (k < 0) = true := decide_eq_true q1
    obtain ⟨bf, gb, ge, N, capb, n, af, pA, pc, pk⟩ := L
    have c0 := h.f.cellD 0 _ rfl
    have c1 := h.f.cellD 1 _ rfl
    have c2 := h.f.cellD 2 _ rfl
    have c3 := h.f.cellD 3 _ rfl
    have c4 := h.f.cellD 4 _ rfl
    have c5 := h.f.cellD 5 _ rfl
    have c6 := h.f.cellD 6 _ rfl
    have hcap := h.bs.le
    have hcmx := h.bs.max
    have hN := h.nN
    have hn0 := h.n0
    have hn9 := h.n9
    have H := Lib.hid h
    simp only [] at c0 c1 c2 c3 c4 c5 c6 hcap hcmx hN hn0 hn9
    have hNb : N ≤ 262144 := by omega
    have hN1 : 1024 ≤ N := by omega
    have HN := Lib.hid hN
    clear h hN
    simp only [FL.p, FL.pv]
    go_enter Try.func20, Try.ntmps20
    go_wp2
    go_ret
    exact ⟨rfl, rfl⟩
  have d1 : decide (k < 0) = false := decide_eq_false q1
  by_cases q2 : (L.n : Int) ≤ k
  · rw [if_pos (.inr q2)] at hef
    rw [hef]
    have d2 : decide ((L.n : Int) ≤ k) = true := decide_eq_true q2
    clear hef hel he
    obtain ⟨bf, gb, ge, N, capb, n, af, pA, pc, pk⟩ := L
    have c0 := h.f.cellD 0 _ rfl
    have c1 := h.f.cellD 1 _ rfl
    have c2 := h.f.cellD 2 _ rfl
    have c3 := h.f.cellD 3 _ rfl
    have c4 := h.f.cellD 4 _ rfl
    have c5 := h.f.cellD 5 _ rfl
    have c6 := h.f.cellD 6 _ rfl
    have hcap := h.bs.le
    have hcmx := h.bs.max
    have hN := h.nN
    have hn0 := h.n0
    have hn9 := h.n9
    have H := Lib.hid h
    simp only [] at c0 c1 c2 c3 c4 c5 c6 hcap hcmx hN hn0 hn9
    have hNb : N ≤ 262144 := by omega
    have hN1 : 1024 ≤ N := by omega
    have HN := Lib.hid hN
    clear h hN
    simp only [FL.p, FL.pv]
    simp only [] at d2 q2
    go_enter Try.func20, Try.ntmps20
    go_wp2
    go_ret
    exact ⟨rfl, rfl⟩
  · rw [if_neg (by omega)] at hef
    rw [hef]
    obtain ⟨i, rfl⟩ : ∃ i : Nat, k = i := ⟨k.toNat, by omega⟩
    have d2 : decide ((L.n : Int) ≤ i) = false := decide_eq_false q2
    have d3 : decide (L.n ≤ i) = false := decide_eq_false (by omega)
    have hi : i < L.n := by omega
    have hc := he.cellD i _ (map_getD 0 (by rw [hel]; exact hi))
    simp only [Int.toNat_natCast]
    generalize s.er.getD i 0 = x at *
    clear hef hel he
    obtain ⟨bf, gb, ge, N, capb, n, af, pA, pc, pk⟩ := L
    have c0 := h.f.cellD 0 _ rfl
    have c1 := h.f.cellD 1 _ rfl
    have c2 := h.f.cellD 2 _ rfl
    have c3 := h.f.cellD 3 _ rfl
    have c4 := h.f.cellD 4 _ rfl
    have c5 := h.f.cellD 5 _ rfl
    have c6 := h.f.cellD 6 _ rfl
    have hcap := h.bs.le
    have hcmx := h.bs.max
    have hN := h.nN
    have hn0 := h.n0
    have hn9 := h.n9
    have H := Lib.hid h
    simp only [] at c0 c1 c2 c3 c4 c5 c6 hcap hcmx hN hn0 hn9
    have hNb : N ≤ 262144 := by omega
    have hN1 : 1024 ≤ N := by omega
    have HN := Lib.hid hN
    clear h hN
    simp only [FL.p, FL.pv]
    simp only [] at d2 d3 hi hc q2
    go_enter Try.func20, Try.ntmps20
    go_wp2
    go_ret
    exact ⟨rfl, rfl⟩
end Go.Proofs.Ytbefbojeojokjaa
