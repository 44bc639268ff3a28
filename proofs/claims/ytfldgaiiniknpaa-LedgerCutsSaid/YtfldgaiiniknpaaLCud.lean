/- Texts put together: Rg, Rg2, RgLaw, SR2, Mix4, SR3, Jn, Jn2, Jn3, Jn4. -/
import Derived.Test.YtfldgaiiniknpaaLCuc
import Derived.Laws.ResultCell
import Derived.Deep.WholeRow
import Derived.Test.YtfldgaiiniknpaaLCub
import Derived.Deep.LoopGhost

/- The walks of package region, over a flash in memory. -/
namespace Go.Proofs.Ytfldgaiiniknpaa
open Go.RowKit

/-- A value, and nothing that was there has changed. -/
def Pure (v : Value) (w : World) (e : Ending) (w' : World) : Prop := e = .returned v ∧ Keeps None w w'
def mayF (d : Bool) (a m size : Int) : Int := if d = true then 5 else if withinB a m size = true then 0 else 2
def FS.gread (s : FS) (first count : Nat) (a m : Int) : List Int × Int := if s.dark = true then ([], 5) else if withinB a m (1024 * count : Nat) = true then s.readF (1024 * first + a) m else ([], 2)
def FS.gprog (s : FS) (first count : Nat) (a : Int) (zs : List Int) : FS × Int := if s.dark = true then (s, 5) else if withinB a zs.length (1024 * count : Nat) = true then s.progF (1024 * first + a) zs else (s, 2)
def sectF (d : Bool) (k : Int) (count : Nat) : Int := if d = true then 5 else if k < 0 ∨ (count : Int) ≤ k then 2 else 0
def FS.gerase (s : FS) (first count : Nat) (k : Int) : FS × Int := if s.dark = true then (s, 5) else if k < 0 ∨ (count : Int) ≤ k then (s, 2) else s.eraseF (first + k)
def FS.gblank (s : FS) (first count : Nat) (k : Int) : Bool × Int := if s.dark = true then (false, 5) else if k < 0 ∨ (count : Int) ≤ k then (false, 2) else (blankB ((s.b.drop (1024 * (first + k.toNat))).take 1024), 0)
def someB (first count n : Int) : Bool := decide (1 ≤ count ∧ 0 ≤ first ∧ first ≤ n ∧ count ≤ n - first)
/-- A region as a value. -/
def rgv (q : Nat) (first count : Int) : Value := .agg #[.pointer (some ⟨q, 0, none⟩), .int .i64 first, .int .i64 count]
def rg0 : Value := .agg #[.pointer none, .int .i64 0, .int .i64 0]

theorem Turn.from {w w1 w' : World} {B : Nat} {L L' : FL} {s' : FS} (k : Keeps None w w1) (t : Turn w1 w' B L L' s') : Turn w w' B L L' s' :=
  ⟨t.at_, k.trans t.keeps (fun _ h => h.elim) (fun _ _ h => h), t.bf, t.n, fun b hb => by
    rcases t.o b hb with h | h
    · exact .inl h
    · exact .inr (Nat.le_trans k.size h)⟩
theorem Turn.still {w w1 : World} {B : Nat} {L : FL} {s : FS} (h : FAt w B L s) (k : Keeps None w w1) : Turn w w1 B L L s := ⟨h.later k, k.mono (fun _ _ h => h.elim), rfl, rfl, fun _ h => .inl h⟩

set_option maxRecDepth 100000 in
theorem gsome_any (first count n : Int) (hn : 0 ≤ n ∧ n ≤ 1000000) (w : World) : Calls Try.prog 55 #[.int .i64 first, .int .i64 count, .int .i64 n] w (Same (.bool (someB first count n)) w) := by
  have WI : Hid (someB first count n = (decide (1 ≤ count) && decide (0 ≤ first) && decide (first ≤ n) && decide (count ≤ n - first))) := by
    show someB first count n = _
    unfold someB
    by_cases q1 : 1 ≤ count <;> by_cases q2 : 0 ≤ first <;> by_cases q3 : first ≤ n <;> by_cases q4 : count ≤ n - first <;> simp [q1, q2, q3, q4]
  by_cases q1 : 1 ≤ count
  · have e1 : decide (1 ≤ count) = true := decide_eq_true q1
    by_cases q2 : 0 ≤ first
    · have e2 : decide (0 ≤ first) = true := decide_eq_true q2
      by_cases q3 : first ≤ n
      · have e3 : decide (first ≤ n) = true := decide_eq_true q3
        rw [e1, e2, e3] at WI
        have hn1 : -9223372036854775808 ≤ n - first := by omega
        have hn2 : n - first ≤ 9223372036854775807 := by omega
        go_enter Try.func55, Try.ntmps55
        go_wp2
        go_ret
        exact ⟨ret_bool (by rw [WI.out]; simp), rfl⟩
      · have e3 : decide (first ≤ n) = false := decide_eq_false q3
        rw [e1, e2, e3] at WI
        go_enter Try.func55, Try.ntmps55
        go_wp2
        go_ret
        exact ⟨ret_bool (by rw [WI.out]; simp), rfl⟩
    · have e2 : decide (0 ≤ first) = false := decide_eq_false q2
      rw [e1, e2] at WI
      go_enter Try.func55, Try.ntmps55
      go_wp2
      go_ret
      exact ⟨ret_bool (by rw [WI.out]; simp), rfl⟩
  · have e1 : decide (1 ≤ count) = false := decide_eq_false q1
    rw [e1] at WI
    go_enter Try.func55, Try.ntmps55
    go_wp2
    go_ret
    exact ⟨ret_bool (by rw [WI.out]; simp), rfl⟩
set_option maxRecDepth 100000 in
theorem gsize_any (p : Option Addr) (first : Int) (count : Nat) (hc : count ≤ 1000000) (w : World) : Calls Try.prog 61 #[.agg #[.pointer p, .int .i64 first, .int .i64 count]] w (Pure (.int .i64 (1024 * count : Nat)) w) := by
  have k0 : Keeps None w (w.alloc (.cells #[.pointer p, .int .i64 first, .int .i64 count] 84)) := (Keeps.refl None w).alloc _
  have hm : ((count : Int) * 1024) = ((1024 * count : Nat) : Int) := by omega
  go_enter Try.func61, Try.ntmps61
  go_wp2
  go_ret
  exact ⟨ret_int (by omega), k0⟩
theorem gbase_any (p : Option Addr) (first : Nat) (count : Int) (hc : first ≤ 1000000) (w : World) : Calls Try.prog 75 #[.agg #[.pointer p, .int .i64 first, .int .i64 count]] w (Pure (.int .i64 (1024 * first : Nat)) w) := by
  have k0 : Keeps None w (w.alloc (.cells #[.pointer p, .int .i64 first, .int .i64 count] 84)) := (Keeps.refl None w).alloc _
  go_enter Try.func75, Try.ntmps75
  go_wp2
  go_ret
  exact ⟨ret_int (by omega), k0⟩

set_option maxRecDepth 100000 in
theorem gmay_any (B : Nat) (L : FL) (s : FS) (q first count : Nat) (a m : Int) (w : World) (h : FAt w B L s) (hq : L.bf = q) (hc : count ≤ 1000000) : Calls Try.prog 73 #[.agg #[.pointer (some ⟨q, 0, none⟩), .int .i64 first, .int .i64 count], .int .i64 a, .int .i64 m] w (Pure (.int .i64 (mayF s.dark a m (1024 * count : Nat))) w) := by
  have OFF := Lib.hid (fun w' (hh : FAt w' B L s) => foff_any B L s w' hh)
  simp only [FL.p, hq] at OFF
  obtain ⟨sz, hsz⟩ : ∃ sz : Nat, 1024 * count = sz := ⟨_, rfl⟩
  have szb : sz ≤ 1024000000 := by omega
  have GS := Lib.hid (fun p f w => gsize_any p f count hc w)
  rw [hsz] at GS ⊢
  clear hsz
  have k0 : Keeps None w (w.alloc (.cells #[.pointer (some ⟨q, 0, none⟩), .int .i64 first, .int .i64 count] 84)) := (Keeps.refl None w).alloc _
  have bx : Blk (w.alloc (.cells #[.pointer (some ⟨q, 0, none⟩), .int .i64 first, .int .i64 count] 84)) w.heap.size [.pointer (some ⟨q, 0, none⟩), .int .i64 first, .int .i64 count] 84 := Blk.new w [.pointer (some ⟨q, 0, none⟩), .int .i64 first, .int .i64 count] 84
  have K0 := Lib.hid k0
  have BX := Lib.hid bx
  clear k0 bx
  have H0 := Lib.hid (h.later K0.out)
  clear h
  cases hd : s.dark with
  | true =>
    rw [hd] at OFF
    have WI : Hid (mayF true a m sz = 5) := rfl
    clear hd
    go_enter Try.func73, Try.ntmps73
    go_wp2_with fail
    refine (OFF.out _ H0.out).mono ?_
    rintro e w' ⟨rfl, rfl⟩
    go_wp2
    go_ret
    exact ⟨ret_int WI.out.symm, K0.out⟩
  | false =>
    rw [hd] at OFF
    have WI0 : Hid (mayF false a m sz = if withinB a m sz = true then 0 else 2) := if_neg (by decide)
    clear hd
    by_cases q1 : a < 0
    · have d1 : decide (a < 0) = true := decide_eq_true q1
      have WI : Hid (mayF false a m sz = 2) := by show _ = _; rw [WI0.out, if_neg]; unfold withinB; rw [decide_eq_false (by omega)]; decide
      clear WI0
      go_enter Try.func73, Try.ntmps73
      go_wp2_with fail
      refine (OFF.out _ H0.out).mono ?_
      rintro e w' ⟨rfl, rfl⟩
      go_wp2
      go_ret
      exact ⟨ret_int WI.out.symm, K0.out⟩
    have d1 : decide (a < 0) = false := decide_eq_false q1
    by_cases q2 : m < 0
    · have d2 : decide (m < 0) = true := decide_eq_true q2
      have WI : Hid (mayF false a m sz = 2) := by show _ = _; rw [WI0.out, if_neg]; unfold withinB; rw [decide_eq_false (by omega)]; decide
      clear WI0
      go_enter Try.func73, Try.ntmps73
      go_wp2_with fail
      refine (OFF.out _ H0.out).mono ?_
      rintro e w' ⟨rfl, rfl⟩
      go_wp2
      go_ret
      exact ⟨ret_int WI.out.symm, K0.out⟩
    have d2 : decide (m < 0) = false := decide_eq_false q2
    by_cases q3 : (sz : Int) < a
    · have d3 : decide ((sz : Int) < a) = true := decide_eq_true q3
      have WI : Hid (mayF false a m sz = 2) := by show _ = _; rw [WI0.out, if_neg]; unfold withinB; rw [decide_eq_false (by omega)]; decide
      clear WI0
      go_enter Try.func73, Try.ntmps73
      go_wp2_with fail
      refine (OFF.out _ H0.out).mono ?_
      rintro e w' ⟨rfl, rfl⟩
      go_wp2_with fail
      refine (GS.out _ _ _).mono ?_
      rintro e w2 ⟨rfl, k2⟩
      have K2 := Lib.hid (K0.out.trans k2 (T := None) (fun _ h => h) (fun _ _ h => h))
      clear k2
      go_wp2
      go_ret
      exact ⟨ret_int WI.out.symm, K2.out⟩
    have d3 : decide ((sz : Int) < a) = false := decide_eq_false q3
    have n1 : -9223372036854775808 ≤ (sz : Int) - a := by omega
    have n2 : (sz : Int) - a ≤ 9223372036854775807 := by omega
    obtain ⟨b4, hb4⟩ : ∃ b, decide ((sz : Int) - a < m) = b := ⟨_, rfl⟩
    have WI : Hid (mayF false a m sz = if b4 = true then 2 else 0) := by
      show _ = _
      rw [WI0.out, ← hb4]
      by_cases q4 : (sz : Int) - a < m
      · rw [if_neg, if_pos (decide_eq_true q4)]; unfold withinB; rw [decide_eq_false (by omega)]; decide
      · rw [if_pos, if_neg]
        · rw [decide_eq_false q4]; decide
        · exact decide_eq_true ⟨by omega, by omega, by omega, by omega⟩
    clear WI0
    go_enter Try.func73, Try.ntmps73
    go_wp2_with fail
    refine (OFF.out _ H0.out).mono ?_
    rintro e w' ⟨rfl, rfl⟩
    go_wp2_with fail
    refine (GS.out _ _ _).mono ?_
    rintro e w2 ⟨rfl, k2⟩
    have K2 := Lib.hid (K0.out.trans k2 (T := None) (fun _ h => h) (fun _ _ h => h))
    have B2 := Lib.hid (k2.blk BX.out (fun h => h))
    have c20 := B2.out.cellD 0 _ rfl
    have c21 := B2.out.cellD 1 _ rfl
    have c22 := B2.out.cellD 2 _ rfl
    clear k2
    go_wp2_with fail
    refine (GS.out _ _ _).mono ?_
    rintro e w3 ⟨rfl, k3⟩
    have K3 := Lib.hid (K2.out.trans k3 (T := None) (fun _ h => h) (fun _ _ h => h))
    have B3 := Lib.hid (k3.blk B2.out (fun h => h))
    have c30 := B3.out.cellD 0 _ rfl
    have c31 := B3.out.cellD 1 _ rfl
    have c32 := B3.out.cellD 2 _ rfl
    clear k3 c20 c21 c22
    cases b4
    · go_wp2
      go_ret
      exact ⟨ret_int (by rw [WI.out]; rfl), K3.out⟩
    · go_wp2
      go_ret
      exact ⟨ret_int (by rw [WI.out]; rfl), K3.out⟩

set_option maxRecDepth 100000 in
theorem gread_any (B : Nat) (L : FL) (s : FS) (q first count : Nat) (a m : Int) (w : World) (h : FAt w B L s) (hq : L.bf = q) (hf : first + count ≤ 256) : Calls Try.prog 62 #[.agg #[.pointer (some ⟨q, 0, none⟩), .int .i64 first, .int .i64 count], .int .i64 a, .int .i64 m] w (ReadTold w (s.gread first count a m)) := by
  have MAY := Lib.hid (fun w' (hh : FAt w' B L s) => gmay_any B L s q first count a m w' hh hq (by omega))
  have RD := Lib.hid (fun w' a (hh : FAt w' B L s) => fread_any B L s a m w' hh)
  simp only [FL.p, hq] at RD
  have GR : Hid (s.gread first count a m = if s.dark = true then ([], 5) else if withinB a m (1024 * count : Nat) = true then s.readF (1024 * first + a) m else ([], 2)) := rfl
  have k0 : Keeps None w (w.alloc (.cells #[.pointer (some ⟨q, 0, none⟩), .int .i64 first, .int .i64 count] 84)) := (Keeps.refl None w).alloc _
  have bx : Blk (w.alloc (.cells #[.pointer (some ⟨q, 0, none⟩), .int .i64 first, .int .i64 count] 84)) w.heap.size [.pointer (some ⟨q, 0, none⟩), .int .i64 first, .int .i64 count] 84 := Blk.new w [.pointer (some ⟨q, 0, none⟩), .int .i64 first, .int .i64 count] 84
  have K0 := Lib.hid k0
  have BX := Lib.hid bx
  clear k0 bx
  have H0 := Lib.hid (h.later K0.out)
  clear h
  have gen : ∀ er : Int, er ≠ 0 → mayF s.dark a m (1024 * count : Nat) = er → s.gread first count a m = ([], er) → Calls Try.prog 62 #[.agg #[.pointer (some ⟨q, 0, none⟩), .int .i64 first, .int .i64 count], .int .i64 a, .int .i64 m] w (ReadTold w (s.gread first count a m)) := by
    intro er h0 hm hg
    have e1 : (er != 0) = true := by simp [h0]
    have HG := Lib.hid hg
    rw [hm] at MAY
    clear hm hg h0
    go_enter Try.func62, Try.ntmps62
    go_wp2_with fail
    refine (MAY.out _ H0.out).mono ?_
    rintro e w1 ⟨rfl, k1⟩
    have K1 := Lib.hid (K0.out.trans k1 (T := None) (fun _ h => h) (fun _ _ h => h))
    clear k1
    go_wp2
    go_ret2
    rw [HG.out]
    exact ⟨_, rfl, Own.nil _ _, K1.out⟩
  cases hd : s.dark with
  | true => exact gen 5 (by decide) (by rw [hd]; rfl) (by rw [GR.out, if_pos hd])
  | false =>
    cases hw : withinB a m (1024 * count : Nat) with
    | false => exact gen 2 (by decide) (by rw [hd]; unfold mayF; rw [if_neg (by decide), if_neg (by rw [hw]; decide)]) (by rw [GR.out, if_neg (by rw [hd]; decide), if_neg (by rw [hw]; decide)])
    | true =>
      have hg : s.gread first count a m = s.readF (1024 * first + a) m := by rw [GR.out, if_neg (by rw [hd]; decide), if_pos hw]
      have hm : mayF s.dark a m (1024 * count : Nat) = 0 := by rw [hd]; unfold mayF; rw [if_neg (by decide), if_pos hw]
      obtain ⟨i, j, rfl, rfl, hij⟩ := within_nat hw
      rw [hg]
      rw [hm] at MAY
      have BS := Lib.hid (fun w => gbase_any (some ⟨q, 0, none⟩) first count (by omega) w)
      obtain ⟨bs, hbs⟩ : ∃ b : Nat, 1024 * first = b := ⟨_, rfl⟩
      obtain ⟨p, hp⟩ : ∃ p : Nat, bs + i = p := ⟨_, rfl⟩
      have e1 : (1024 * (first : Int) + i) = (p : Int) := by omega
      rw [e1]
      rw [hbs] at BS
      have w1 : IntKind.i64.wrap ((bs : Int) + i) = p := by rw [show (bs : Int) + i = (p : Int) by omega]; exact wrap_nat _ (by omega)
      have RDp := Lib.hid (fun w' (hh : FAt w' B L s) => RD.out w' p hh)
      generalize s.readF p j = r at *
      clear gen GR hg hm hw hd RD hbs hp e1
      go_enter Try.func62, Try.ntmps62
      go_wp2_with fail
      refine (MAY.out _ H0.out).mono ?_
      rintro e w1' ⟨rfl, k1⟩
      have K1 := Lib.hid (K0.out.trans k1 (T := None) (fun _ h => h) (fun _ _ h => h))
      have B1 := Lib.hid (k1.blk BX.out (fun h => h))
      have H1 := Lib.hid (H0.out.later k1)
      clear k1
      go_wp2
      obtain ⟨mS, mh⟩ : ∃ S : World → Prop, ∀ w', S w' ↔ (w'.cell? ⟨w.heap.size, 0, none⟩ = some (.pointer (some ⟨q, 0, none⟩)) ∧ w'.cell? ⟨w.heap.size, 1, none⟩ = some (.int .i64 first) ∧ w'.cell? ⟨w.heap.size, 2, none⟩ = some (.int .i64 count)) := ⟨_, fun _ => Iff.rfl⟩
      have mk0 : ∀ x : Memb mS, x.at_.cell? ⟨w.heap.size, 0, none⟩ = some (.pointer (some ⟨q, 0, none⟩)) := fun x => ((mh _).1 x.is).1
      have mk1 : ∀ x : Memb mS, x.at_.cell? ⟨w.heap.size, 1, none⟩ = some (.int .i64 first) := fun x => ((mh _).1 x.is).2.1
      have mk2 : ∀ x : Memb mS, x.at_.cell? ⟨w.heap.size, 2, none⟩ = some (.int .i64 count) := fun x => ((mh _).1 x.is).2.2
      have mn : Nonempty (Memb mS) := ⟨⟨(w1').drew, (mh _).2 ⟨B1.out.cellD 0 _ rfl, B1.out.cellD 1 _ rfl, B1.out.cellD 2 _ rfl⟩⟩⟩
      have mH := Lib.hid mh
      clear mh
      refine wp_region_mix [3, 7] (InS mS) (by kernel_rfl) (by kernel_rfl) (InS.mk ((mH.out _).2 ⟨B1.out.cellD 0 _ rfl, B1.out.cellD 1 _ rfl, B1.out.cellD 2 _ rfl⟩)) ?_
      refine wpMix_seg 3 (by kernel_rfl) (by decide) ?_
      simp only [List.take_succ_cons, List.take_zero, List.drop_succ_cons, List.drop_zero]
      repeat (go_big_quiet_step (fail))
      refine wpQuiet_nil ?_
      refine wpMix_eff (by kernel_rfl) ?_
      go_wp2_with fail
      refine (BS.out _).mono ?_
      rintro e w2 ⟨rfl, k2⟩
      have K2 := Lib.hid (K1.out.drew.trans k2 (T := None) (fun _ h => h) (fun _ _ h => h))
      have B2 := Lib.hid (k2.blk B1.out.drew (fun h => h))
      have H2 := Lib.hid (H1.out.drew.later k2)
      clear k2
      go_wp2
      refine MixK.on (InS.mk ((mH.out _).2 (⟨B2.out.cellD 0 _ rfl, B2.out.cellD 1 _ rfl, B2.out.cellD 2 _ rfl⟩))) ?_
      refine wpMix_seg 3 (by kernel_rfl) (by decide) ?_
      simp only [List.take_succ_cons, List.take_zero, List.drop_succ_cons, List.drop_zero]
      repeat (go_big_quiet_step (fail))
      refine wpQuiet_nil ?_
      refine wpMix_eff (by kernel_rfl) ?_
      go_wp2_with fail
      refine (RDp.out _ H2.out).mono ?_
      rintro e w3 ⟨v3, rfl, o3, k3⟩
      have K3 := Lib.hid (K2.out.trans k3 (T := None) (fun _ h => h) (fun _ _ h => h))
      have B3 := Lib.hid (k3.blk B2.out (fun h => h))
      have O3 := Lib.hid (o3.lower K2.out.size)
      clear o3 k3
      go_wp2
      refine MixK.on (InS.mk ((mH.out _).2 (⟨B3.out.cellD 0 _ rfl, B3.out.cellD 1 _ rfl, B3.out.cellD 2 _ rfl⟩))) ?_
      refine wpMix_seg 4 (by kernel_rfl) (by decide) ?_
      simp only [List.take_succ_cons, List.take_zero, List.drop_succ_cons, List.drop_zero]
      repeat (go_big_quiet_step (fail))
      refine wpQuiet_nil ?_
      refine wpMix_nil ?_
      clear mk0 mk1 mk2 mn mH
      go_wp2
      go_ret2
      exact ⟨_, rfl, O3.out, K3.out⟩
end Go.Proofs.Ytfldgaiiniknpaa
/- The walks of package region: Program, sector, Erase, IsBlank, Part, Of. -/
namespace Go.Proofs.Ytfldgaiiniknpaa
open Go.RowKit

set_option maxRecDepth 100000 in
set_option maxHeartbeats 800000 in
theorem gprogram_any (B : Nat) (L : FL) (s : FS) (q first count : Nat) (a : Int) (A : Option Addr) (m c : Nat) (zs : List Int) (w : World) (h : FAt w B L s) (hq : L.bf = q) (hf : first + count ≤ 256) (hb : Bs w A m c zs) (hst : 0 ≤ s.steps ∧ s.steps + m ≤ 1000000000000)
    (hA : ∀ b off, 0 < m → A = some ⟨b, off, none⟩ → ¬ L.S b) : Calls Try.prog 69 #[.agg #[.pointer (some ⟨q, 0, none⟩), .int .i64 first, .int .i64 count], .int .i64 a, .slice A m c] w (ProgTold w B L (s.gprog first count a zs)) := by
  have MAY := Lib.hid (fun w' (hh : FAt w' B L s) => gmay_any B L s q first count a m w' hh hq (by omega))
  have hml := hb.len
  have hle := hb.le
  have hmx := hb.max
  have PR := Lib.hid (fun w' a (hh : FAt w' B L s) (hk : Keeps None w w') => fprogram_any B L s a A m c zs w' hh (hb.keeps hk (fun _ _ _ _ _ h => h)) hst hA)
  simp only [FL.p, hq] at PR
  have GR : Hid (s.gprog first count a zs = if s.dark = true then (s, 5) else if withinB a m (1024 * count : Nat) = true then s.progF (1024 * first + a) zs else (s, 2)) := by
    show s.gprog first count a zs = _
    unfold FS.gprog; rw [hml]
  have NB : Hid (¬ L.O w.heap.size) := fun hO => Nat.lt_irrefl _ (h.lt _ hO)
  have HW := Lib.hid h
  have k0 : Keeps None w (w.alloc (.cells #[.pointer (some ⟨q, 0, none⟩), .int .i64 first, .int .i64 count] 84)) := (Keeps.refl None w).alloc _
  have bx : Blk (w.alloc (.cells #[.pointer (some ⟨q, 0, none⟩), .int .i64 first, .int .i64 count] 84)) w.heap.size [.pointer (some ⟨q, 0, none⟩), .int .i64 first, .int .i64 count] 84 := Blk.new w [.pointer (some ⟨q, 0, none⟩), .int .i64 first, .int .i64 count] 84
  have K0 := Lib.hid k0
  have BX := Lib.hid bx
  clear k0 bx
  have H0 := Lib.hid (h.later K0.out)
  clear h hb hA hml
  have gen : ∀ er : Int, er ≠ 0 → mayF s.dark a m (1024 * count : Nat) = er → s.gprog first count a zs = (s, er) → Calls Try.prog 69 #[.agg #[.pointer (some ⟨q, 0, none⟩), .int .i64 first, .int .i64 count], .int .i64 a, .slice A m c] w (ProgTold w B L (s.gprog first count a zs)) := by
    intro er h0 hm hg
    have e1 : (er != 0) = true := by simp [h0]
    have HG := Lib.hid hg
    rw [hm] at MAY
    clear hm hg h0
    go_enter Try.func69, Try.ntmps69
    go_wp2_with fail
    refine (MAY.out _ H0.out).mono ?_
    rintro e w1 ⟨rfl, k1⟩
    have K1 := Lib.hid (K0.out.trans k1 (T := None) (fun _ h => h) (fun _ _ h => h))
    clear k1
    go_wp2
    go_ret
    rw [HG.out]
    exact ⟨rfl, _, Turn.still HW.out K1.out⟩
  cases hd : s.dark with
  | true => exact gen 5 (by decide) (by rw [hd]; rfl) (by rw [GR.out, if_pos hd])
  | false =>
    cases hw : withinB a m (1024 * count : Nat) with
    | false => exact gen 2 (by decide) (by rw [hd]; unfold mayF; rw [if_neg (by decide), if_neg (by rw [hw]; decide)]) (by rw [GR.out, if_neg (by rw [hd]; decide), if_neg (by rw [hw]; decide)])
    | true =>
      have hg : s.gprog first count a zs = s.progF (1024 * first + a) zs := by rw [GR.out, if_neg (by rw [hd]; decide), if_pos hw]
      have hm : mayF s.dark a m (1024 * count : Nat) = 0 := by rw [hd]; unfold mayF; rw [if_neg (by decide), if_pos hw]
      obtain ⟨i, j, rfl, hj, hij⟩ := within_nat hw
      rw [hg]
      rw [hm] at MAY
      have BS := Lib.hid (fun w => gbase_any (some ⟨q, 0, none⟩) first count (by omega) w)
      obtain ⟨bs, hbs⟩ : ∃ b : Nat, 1024 * first = b := ⟨_, rfl⟩
      obtain ⟨p, hp⟩ : ∃ p : Nat, bs + i = p := ⟨_, rfl⟩
      have e1 : (1024 * (first : Int) + i) = (p : Int) := by omega
      rw [e1]
      rw [hbs] at BS
      have w1 : IntKind.i64.wrap ((bs : Int) + i) = p := by rw [show (bs : Int) + i = (p : Int) by omega]; exact wrap_nat _ (by omega)
      have PRp := Lib.hid (fun w' (hh : FAt w' B L s) (hk : Keeps None w w') => PR.out w' p hh hk)
      generalize s.progF p zs = r at *
      clear gen GR hg hm hw hd PR hbs hp e1 hj
      go_enter Try.func69, Try.ntmps69
      go_wp2_with fail
      refine (MAY.out _ H0.out).mono ?_
      rintro e w1' ⟨rfl, k1⟩
      have K1 := Lib.hid (K0.out.trans k1 (T := None) (fun _ h => h) (fun _ _ h => h))
      have B1 := Lib.hid (k1.blk BX.out (fun h => h))
      have H1 := Lib.hid (H0.out.later k1)
      clear k1
      go_wp2
      obtain ⟨mS, mh⟩ : ∃ S : World → Prop, ∀ w', S w' ↔ (w'.cell? ⟨w.heap.size, 0, none⟩ = some (.pointer (some ⟨q, 0, none⟩)) ∧ w'.cell? ⟨w.heap.size, 1, none⟩ = some (.int .i64 first) ∧ w'.cell? ⟨w.heap.size, 2, none⟩ = some (.int .i64 count)) := ⟨_, fun _ => Iff.rfl⟩
      have mk0 : ∀ x : Memb mS, x.at_.cell? ⟨w.heap.size, 0, none⟩ = some (.pointer (some ⟨q, 0, none⟩)) := fun x => ((mh _).1 x.is).1
      have mk1 : ∀ x : Memb mS, x.at_.cell? ⟨w.heap.size, 1, none⟩ = some (.int .i64 first) := fun x => ((mh _).1 x.is).2.1
      have mk2 : ∀ x : Memb mS, x.at_.cell? ⟨w.heap.size, 2, none⟩ = some (.int .i64 count) := fun x => ((mh _).1 x.is).2.2
      have mn : Nonempty (Memb mS) := ⟨⟨(w1').drew, (mh _).2 ⟨B1.out.cellD 0 _ rfl, B1.out.cellD 1 _ rfl, B1.out.cellD 2 _ rfl⟩⟩⟩
      have mH := Lib.hid mh
      clear mh
      refine wp_region_mix [3, 7] (InS mS) (by kernel_rfl) (by kernel_rfl) (InS.mk ((mH.out _).2 ⟨B1.out.cellD 0 _ rfl, B1.out.cellD 1 _ rfl, B1.out.cellD 2 _ rfl⟩)) ?_
      refine wpMix_seg 3 (by kernel_rfl) (by decide) ?_
      simp only [List.take_succ_cons, List.take_zero, List.drop_succ_cons, List.drop_zero]
      repeat (go_big_quiet_step (fail))
      refine wpQuiet_nil ?_
      refine wpMix_eff (by kernel_rfl) ?_
      go_wp2_with fail
      refine (BS.out _).mono ?_
      rintro e w2 ⟨rfl, k2⟩
      have K2 := Lib.hid (K1.out.drew.trans k2 (T := None) (fun _ h => h) (fun _ _ h => h))
      have B2 := Lib.hid (k2.blk B1.out.drew (fun h => h))
      have H2 := Lib.hid (H1.out.drew.later k2)
      clear k2
      go_wp2
      refine MixK.on (InS.mk ((mH.out _).2 (⟨B2.out.cellD 0 _ rfl, B2.out.cellD 1 _ rfl, B2.out.cellD 2 _ rfl⟩))) ?_
      refine wpMix_seg 3 (by kernel_rfl) (by decide) ?_
      simp only [List.take_succ_cons, List.take_zero, List.drop_succ_cons, List.drop_zero]
      repeat (go_big_quiet_step (fail))
      refine wpQuiet_nil ?_
      refine wpMix_eff (by kernel_rfl) ?_
      go_wp2_with fail
      refine (PRp.out _ H2.out K2.out).mono ?_
      rintro e w3 ⟨rfl, L3, t3⟩
      have T3 := Lib.hid (Turn.from K2.out t3)
      have B3 := Lib.hid (t3.keeps.blk B2.out NB.out)
      clear t3
      go_wp2
      refine MixK.on (InS.mk ((mH.out _).2 (⟨B3.out.cellD 0 _ rfl, B3.out.cellD 1 _ rfl, B3.out.cellD 2 _ rfl⟩))) ?_
      refine wpMix_seg 1 (by kernel_rfl) (by decide) ?_
      simp only [List.take_succ_cons, List.take_zero, List.drop_succ_cons, List.drop_zero]
      repeat (go_big_quiet_step (fail))
      refine wpQuiet_nil ?_
      refine wpMix_nil ?_
      clear mk0 mk1 mk2 mn mH
      go_wp2
      go_ret
      exact ⟨rfl, _, T3.out⟩

set_option maxRecDepth 100000 in
theorem gsector_any (B : Nat) (L : FL) (s : FS) (q first count : Nat) (k : Int) (w : World) (h : FAt w B L s) (hq : L.bf = q) (hc : count ≤ 1000000) : Calls Try.prog 95 #[.agg #[.pointer (some ⟨q, 0, none⟩), .int .i64 first, .int .i64 count], .int .i64 k] w (Pure (.int .i64 (sectF s.dark k count)) w) := by
  have OFF := Lib.hid (fun w' (hh : FAt w' B L s) => foff_any B L s w' hh)
  simp only [FL.p, hq] at OFF
  have k0 : Keeps None w (w.alloc (.cells #[.pointer (some ⟨q, 0, none⟩), .int .i64 first, .int .i64 count] 84)) := (Keeps.refl None w).alloc _
  have bx : Blk (w.alloc (.cells #[.pointer (some ⟨q, 0, none⟩), .int .i64 first, .int .i64 count] 84)) w.heap.size [.pointer (some ⟨q, 0, none⟩), .int .i64 first, .int .i64 count] 84 := Blk.new w [.pointer (some ⟨q, 0, none⟩), .int .i64 first, .int .i64 count] 84
  have K0 := Lib.hid k0
  have BX := Lib.hid bx
  clear k0 bx
  have H0 := Lib.hid (h.later K0.out)
  clear h
  cases hd : s.dark with
  | true =>
    rw [hd] at OFF
    have WI : Hid (sectF true k count = 5) := rfl
    clear hd
    go_enter Try.func95, Try.ntmps95
    go_wp2_with fail
    refine (OFF.out _ H0.out).mono ?_
    rintro e w' ⟨rfl, rfl⟩
    go_wp2
    go_ret
    exact ⟨ret_int WI.out.symm, K0.out⟩
  | false =>
    rw [hd] at OFF
    have WI0 : Hid (sectF false k count = if k < 0 ∨ (count : Int) ≤ k then 2 else 0) := if_neg (by decide)
    clear hd
    by_cases q1 : k < 0
    · have d1 : decide (k < 0) = true := decide_eq_true q1
      have WI : Hid (sectF false k count = 2) := by show _ = _; rw [WI0.out, if_pos (.inl q1)]
      clear WI0
      go_enter Try.func95, Try.ntmps95
      go_wp2_with fail
      refine (OFF.out _ H0.out).mono ?_
      rintro e w' ⟨rfl, rfl⟩
      go_wp2
      go_ret
      exact ⟨ret_int WI.out.symm, K0.out⟩
    have d1 : decide (k < 0) = false := decide_eq_false q1
    by_cases q2 : (count : Int) ≤ k
    · have d2 : decide ((count : Int) ≤ k) = true := decide_eq_true q2
      have WI : Hid (sectF false k count = 2) := by show _ = _; rw [WI0.out, if_pos (.inr q2)]
      clear WI0
      go_enter Try.func95, Try.ntmps95
      go_wp2_with fail
      refine (OFF.out _ H0.out).mono ?_
      rintro e w' ⟨rfl, rfl⟩
      go_wp2
      go_ret
      exact ⟨ret_int WI.out.symm, K0.out⟩
    have d2 : decide ((count : Int) ≤ k) = false := decide_eq_false q2
    have WI : Hid (sectF false k count = 0) := by show _ = _; rw [WI0.out, if_neg (by omega)]
    clear WI0
    go_enter Try.func95, Try.ntmps95
    go_wp2_with fail
    refine (OFF.out _ H0.out).mono ?_
    rintro e w' ⟨rfl, rfl⟩
    go_wp2
    go_ret
    exact ⟨ret_int WI.out.symm, K0.out⟩

set_option maxRecDepth 100000 in
theorem gerase_any (B : Nat) (L : FL) (s : FS) (q first count : Nat) (k : Int) (w : World) (h : FAt w B L s) (hq : L.bf = q) (hf : first + count ≤ 256) (hst : 0 ≤ s.steps ∧ s.steps ≤ 1000000000000) (her : ∀ i, 0 ≤ s.er.getD i 0 ∧ s.er.getD i 0 ≤ 1000000000000) :
    Calls Try.prog 83 #[.agg #[.pointer (some ⟨q, 0, none⟩), .int .i64 first, .int .i64 count], .int .i64 k] w (ProgTold w B L (s.gerase first count k)) := by
  have SEC := Lib.hid (fun w' (hh : FAt w' B L s) => gsector_any B L s q first count k w' hh hq (by omega))
  have ER := Lib.hid (fun w' k (hh : FAt w' B L s) => ferase_any B L s k w' hh hst her)
  simp only [FL.p, hq] at ER
  have GR : Hid (s.gerase first count k = if s.dark = true then (s, 5) else if k < 0 ∨ (count : Int) ≤ k then (s, 2) else s.eraseF (first + k)) := rfl
  have HW := Lib.hid h
  have k0 : Keeps None w (w.alloc (.cells #[.pointer (some ⟨q, 0, none⟩), .int .i64 first, .int .i64 count] 84)) := (Keeps.refl None w).alloc _
  have bx : Blk (w.alloc (.cells #[.pointer (some ⟨q, 0, none⟩), .int .i64 first, .int .i64 count] 84)) w.heap.size [.pointer (some ⟨q, 0, none⟩), .int .i64 first, .int .i64 count] 84 := Blk.new w [.pointer (some ⟨q, 0, none⟩), .int .i64 first, .int .i64 count] 84
  have K0 := Lib.hid k0
  have BX := Lib.hid bx
  clear k0 bx
  have H0 := Lib.hid (h.later K0.out)
  clear h
  have gen : ∀ er : Int, er ≠ 0 → sectF s.dark k count = er → s.gerase first count k = (s, er) → Calls Try.prog 83 #[.agg #[.pointer (some ⟨q, 0, none⟩), .int .i64 first, .int .i64 count], .int .i64 k] w (ProgTold w B L (s.gerase first count k)) := by
    intro er h0 hm hg
    have e1 : (er != 0) = true := by simp [h0]
    have HG := Lib.hid hg
    rw [hm] at SEC
    clear hm hg h0
    go_enter Try.func83, Try.ntmps83
    go_wp2_with fail
    refine (SEC.out _ H0.out).mono ?_
    rintro e w1 ⟨rfl, k1⟩
    have K1 := Lib.hid (K0.out.trans k1 (T := None) (fun _ h => h) (fun _ _ h => h))
    clear k1
    go_wp2
    go_ret
    rw [HG.out]
    exact ⟨rfl, _, Turn.still HW.out K1.out⟩
  cases hd : s.dark with
  | true => exact gen 5 (by decide) (by rw [hd]; rfl) (by rw [GR.out, if_pos hd])
  | false =>
    by_cases q1 : k < 0 ∨ (count : Int) ≤ k
    · exact gen 2 (by decide) (by rw [hd]; unfold sectF; rw [if_neg (by decide), if_pos q1]) (by rw [GR.out, if_neg (by rw [hd]; decide), if_pos q1])
    · have hg : s.gerase first count k = s.eraseF (first + k) := by rw [GR.out, if_neg (by rw [hd]; decide), if_neg q1]
      have hm : sectF s.dark k count = 0 := by rw [hd]; unfold sectF; rw [if_neg (by decide), if_neg q1]
      have b1 : 0 ≤ k := by omega
      have b2 : k ≤ 256 := by omega
      rw [hg]
      rw [hm] at SEC
      have ERp := Lib.hid (fun w' (hh : FAt w' B L s) => ER.out w' (first + k) hh)
      generalize s.eraseF (first + k) = r at *
      clear gen GR hg hm hd ER q1
      go_enter Try.func83, Try.ntmps83
      go_wp2_with fail
      refine (SEC.out _ H0.out).mono ?_
      rintro e w1 ⟨rfl, k1⟩
      have K1 := Lib.hid (K0.out.trans k1 (T := None) (fun _ h => h) (fun _ _ h => h))
      have B1 := Lib.hid (k1.blk BX.out (fun h => h))
      have H1 := Lib.hid (H0.out.later k1)
      have y0 := B1.out.cellD 0 _ rfl
      have y1 := B1.out.cellD 1 _ rfl
      have y2 := B1.out.cellD 2 _ rfl
      clear k1
      go_wp2_with fail
      refine (ERp.out _ H1.out).mono ?_
      rintro e w3 ⟨rfl, L3, t3⟩
      have T3 := Lib.hid (Turn.from K1.out t3)
      clear t3
      go_wp2
      go_ret
      exact ⟨rfl, _, T3.out⟩

set_option maxRecDepth 100000 in
theorem gisblank_any (B : Nat) (L : FL) (s : FS) (q first count : Nat) (k : Int) (w : World) (h : FAt w B L s) (hq : L.bf = q) (hf : first + count ≤ L.n) :
    Calls Try.prog 82 #[.agg #[.pointer (some ⟨q, 0, none⟩), .int .i64 first, .int .i64 count], .int .i64 k] w (Pure (.tuple #[.bool (s.gblank first count k).1, .int .i64 (s.gblank first count k).2]) w) := by
  have hn9 := h.n9
  have SEC := Lib.hid (fun w' (hh : FAt w' B L s) => gsector_any B L s q first count k w' hh hq (by omega))
  have RD := Lib.hid (fun w' a m (hh : FAt w' B L s) => gread_any B L s q first count a m w' hh hq (by omega))
  have GR : Hid (s.gblank first count k = if s.dark = true then (false, 5) else if k < 0 ∨ (count : Int) ≤ k then (false, 2) else (blankB ((s.b.drop (1024 * (first + k.toNat))).take 1024), 0)) := rfl
  have hbl := h.bl
  have hnN := h.nN
  have k0 : Keeps None w (w.alloc (.cells #[.pointer (some ⟨q, 0, none⟩), .int .i64 first, .int .i64 count] 84)) := (Keeps.refl None w).alloc _
  have bx : Blk (w.alloc (.cells #[.pointer (some ⟨q, 0, none⟩), .int .i64 first, .int .i64 count] 84)) w.heap.size [.pointer (some ⟨q, 0, none⟩), .int .i64 first, .int .i64 count] 84 := Blk.new w [.pointer (some ⟨q, 0, none⟩), .int .i64 first, .int .i64 count] 84
  have K0 := Lib.hid k0
  have BX := Lib.hid bx
  clear k0 bx
  have H0 := Lib.hid (h.later K0.out)
  clear h
  have gen : ∀ er : Int, er ≠ 0 → sectF s.dark k count = er → s.gblank first count k = (false, er) → Calls Try.prog 82 #[.agg #[.pointer (some ⟨q, 0, none⟩), .int .i64 first, .int .i64 count], .int .i64 k] w (Pure (.tuple #[.bool (s.gblank first count k).1, .int .i64 (s.gblank first count k).2]) w) := by
    intro er h0 hm hg
    have e1 : (er != 0) = true := by simp [h0]
    have HG := Lib.hid hg
    rw [hm] at SEC
    clear hm hg h0
    go_enter Try.func82, Try.ntmps82
    go_wp2_with fail
    refine (SEC.out _ H0.out).mono ?_
    rintro e w1 ⟨rfl, k1⟩
    have K1 := Lib.hid (K0.out.trans k1 (T := None) (fun _ h => h) (fun _ _ h => h))
    clear k1
    go_wp2
    go_ret2
    rw [HG.out]
    exact ⟨rfl, K1.out⟩
  cases hd : s.dark with
  | true => exact gen 5 (by decide) (by rw [hd]; rfl) (by rw [GR.out, if_pos hd])
  | false =>
    by_cases q1 : k < 0 ∨ (count : Int) ≤ k
    · exact gen 2 (by decide) (by rw [hd]; unfold sectF; rw [if_neg (by decide), if_pos q1]) (by rw [GR.out, if_neg (by rw [hd]; decide), if_pos q1])
    · obtain ⟨j, rfl⟩ : ∃ j : Nat, k = j := ⟨k.toNat, by omega⟩
      have hj : j < count := by omega
      have hg : s.gblank first count j = (blankB ((s.b.drop (1024 * (first + j))).take 1024), 0) := by rw [GR.out, if_neg (by rw [hd]; decide), if_neg q1, Int.toNat_natCast]
      have hm : sectF s.dark j count = 0 := by rw [hd]; unfold sectF; rw [if_neg (by decide), if_neg q1]
      have hr : s.gread first count ((1024 * j : Nat) : Int) 1024 = ((s.b.drop (1024 * (first + j))).take 1024, 0) := by
        unfold FS.gread
        rw [if_neg (by rw [hd]; decide), if_pos (show withinB _ _ _ = true from decide_eq_true ⟨by omega, by omega, by omega, by omega⟩)]
        unfold FS.readF
        rw [if_neg (by rw [hd]; decide), hbl, if_pos (show withinB _ _ _ = true from decide_eq_true ⟨by omega, by omega, by omega, by omega⟩)]
        have e : (1024 * (first : Int) + ((1024 * j : Nat) : Int)).toNat = 1024 * (first + j) := by omega
        rw [e]; rfl
      rw [hg]
      rw [hm] at SEC
      have RDp := Lib.hid (fun w' (hh : FAt w' B L s) => RD.out w' ((1024 * j : Nat) : Int) 1024 hh)
      rw [hr] at RDp
      obtain ⟨zs, hzs⟩ : ∃ zs, (s.b.drop (1024 * (first + j))).take 1024 = zs := ⟨_, rfl⟩
      rw [hzs] at RDp ⊢
      obtain ⟨p, hp⟩ : ∃ p : Nat, 1024 * j = p := ⟨_, rfl⟩
      have e1 : ((j : Int) * 1024) = p := by omega
      rw [hp] at RDp
      clear gen GR hg hm hd RD q1 hr hzs hp hbl hnN
      go_enter Try.func82, Try.ntmps82
      go_wp2_with fail
      refine (SEC.out _ H0.out).mono ?_
      rintro e w1 ⟨rfl, k1⟩
      have K1 := Lib.hid (K0.out.trans k1 (T := None) (fun _ h => h) (fun _ _ h => h))
      have B1 := Lib.hid (k1.blk BX.out (fun h => h))
      have H1 := Lib.hid (H0.out.later k1)
      have y0 := B1.out.cellD 0 _ rfl
      have y1 := B1.out.cellD 1 _ rfl
      have y2 := B1.out.cellD 2 _ rfl
      clear k1
      go_wp2_with fail
      refine (RDp.out _ H1.out).mono ?_
      rintro e w3 ⟨v3, rfl, o3, k3⟩
      obtain ⟨A3, c3, rfl, bs3⟩ := slice_of_own o3
      have K3 := Lib.hid (K1.out.trans k3 (T := None) (fun _ h => h) (fun _ _ h => h))
      have IB := Lib.hid (isBlank_any _ _ _ _ _ bs3)
      clear k3 o3 bs3 y0 y1 y2
      go_wp2_with fail
      refine IB.out.mono ?_
      rintro e w' ⟨rfl, rfl⟩
      go_wp2
      go_ret2
      exact ⟨rfl, K3.out⟩

theorem blk_newAt {X : World} {b : Nat} (h : X.heap.size = b) (c : List Value) (T : TypeId) : Blk (X.alloc (.cells c.toArray T)) b c T := by
  subst h; exact Blk.new _ _ _
theorem results_cell2 {fn : Func} {p u : Tmp} {ty : TypeId} (h : fn.results = #[.cell p ty, .tmp u]) (tmps : Array Value) (P : Program) (w : World) :
    (results fn tmps).run P w = ((asAddr (tmps.getD p undef)).run P w).andThen fun a w₁ => ((loadVar ty a).run P w₁).andThen fun x w₂ => .ok (.tuple #[x, tmps.getD u undef]) w₂ := by
  simp only [results, h]
  simp [Sem.run_bind, Result.andThen]
theorem Try.infoR84 : (Try.prog.info? 84).map (fun i => (i.zero, i.size)) = some (some (.agg #[.pointer none, .int .i64 0, .int .i64 0]), 3) := by kernel_rfl
theorem rg_res {fn : Func} (hr : fn.results = #[.cell 6 84, .tmp 7]) {w : World} {g : Nat} {a b c x : Value} {T : TypeId} (tmps : Array Value) (h : Blk w g [a, b, c] T) (h2 : tmps.getD 6 undef = .pointer (some ⟨g, 0, none⟩)) (h3 : tmps.getD 7 undef = x) :
    (results fn tmps).run Try.prog w = .ok (.tuple #[.agg #[a, b, c], x]) w := by
  have hl : (loadVar 84 ⟨g, 0, none⟩).run Try.prog w = .ok (.agg #[a, b, c]) w :=
    run_loadVar_row w g T 84 #[a, b, c] (0, 0) _ h Try.underlying84 rfl (by rw [(zero_of_info Try.infoR84).2]; rfl)
  rw [results_cell2 (p := 6) (u := 7) (ty := 84) hr, h2, h3]
  simp only [asAddr, Sem.run_pure, Result.andThen_ok, hl]

set_option maxRecDepth 100000 in
theorem gof_nil (a m : Int) (w : World) : Calls Try.prog 47 #[.pointer none, .int .i64 a, .int .i64 m] w (Pure (.tuple #[rg0, .int .i64 1]) w) := by
  have BB : Hid (Blk (w.alloc (.cells #[.pointer none, .int .i64 0, .int .i64 0] 84)) w.heap.size [.pointer none, .int .i64 0, .int .i64 0] 84) := Blk.new w [.pointer none, .int .i64 0, .int .i64 0] 84
  have KB : Hid (Keeps None w (w.alloc (.cells #[.pointer none, .int .i64 0, .int .i64 0] 84))) := (Keeps.refl None w).alloc _
  go_enter Try.func47, Try.ntmps47
  go_wp2
  refine bodyPost_ret (rg_res rfl _ BB.out rfl rfl) rfl ?_
  exact ⟨rfl, KB.out⟩
/-- What Of and Part tell. -/
def ofF (p : Option Addr) (first count n : Int) (b : Int) : Value := if someB first count n = true then .tuple #[.agg #[.pointer p, .int .i64 (b + first), .int .i64 count], .int .i64 0] else .tuple #[rg0, .int .i64 1]

set_option maxRecDepth 100000 in
theorem gof_any (B : Nat) (L : FL) (s : FS) (q : Nat) (a m : Int) (w : World) (h : FAt w B L s) (hq : L.bf = q) : Calls Try.prog 47 #[.pointer (some ⟨q, 0, none⟩), .int .i64 a, .int .i64 m] w (Pure (ofF (some ⟨q, 0, none⟩) a m L.n 0) w) := by
  have SZ := Lib.hid (fun w' (hh : FAt w' B L s) => fsize_any B L s w' hh)
  simp only [FL.p, hq] at SZ
  have hn9 := h.n9
  have SM := Lib.hid (fun w => gsome_any a m L.n ⟨by omega, by omega⟩ w)
  have eN : ((L.N : Int) / 1024) = L.n := by have := h.nN; omega
  have H0 := Lib.hid (h.alloc (.cells #[.pointer none, .int .i64 0, .int .i64 0] 84))
  have BB : Hid (Blk (w.alloc (.cells #[.pointer none, .int .i64 0, .int .i64 0] 84)) w.heap.size [.pointer none, .int .i64 0, .int .i64 0] 84) := Blk.new w [.pointer none, .int .i64 0, .int .i64 0] 84
  have KB : Hid (Keeps None w (w.alloc (.cells #[.pointer none, .int .i64 0, .int .i64 0] 84))) := (Keeps.refl None w).alloc _
  have OF : Hid (ofF (some ⟨q, 0, none⟩) a m L.n 0 = if someB a m L.n = true then .tuple #[.agg #[.pointer (some ⟨q, 0, none⟩), .int .i64 a, .int .i64 m], .int .i64 0] else .tuple #[rg0, .int .i64 1]) := by
    show ofF _ _ _ _ _ = _
    unfold ofF; rw [Int.zero_add]
  generalize L.n = n at *
  generalize L.N = N at *
  clear h
  cases hs : someB a m n with
  | false =>
    rw [hs] at SM OF
    clear hs
    go_enter Try.func47, Try.ntmps47
    go_wp2_with fail
    refine (SZ.out _ H0.out).mono ?_
    rintro e w' ⟨rfl, rfl⟩
    go_wp2_with fail
    refine (SM.out _).mono ?_
    rintro e w' ⟨rfl, rfl⟩
    -- BB.out the cell's block
    have zz0 := Blk.cellD (BB.out) 0 _ rfl
    have zz1 := Blk.cellD (BB.out) 1 _ rfl
    have zz2 := Blk.cellD (BB.out) 2 _ rfl
    have zf0 := Blk.frozen (BB.out) 0
    have zf1 := Blk.frozen (BB.out) 1
    have zf2 := Blk.frozen (BB.out) 2
    go_wp2
    refine bodyPost_ret (rg_res rfl _ (by first | exact BB.out | exact ((BB.out.set 0 _).set 1 _).set 2 _) rfl rfl) rfl ?_
    rw [OF.out]
    exact ⟨rfl, by first | exact KB.out | exact ((KB.out.setCell _ _ (fun h => absurd h (Nat.lt_irrefl _))).setCell _ _ (fun h => absurd h (Nat.lt_irrefl _))).setCell _ _ (fun h => absurd h (Nat.lt_irrefl _))⟩
  | true =>
    rw [hs] at SM OF
    clear hs
    go_enter Try.func47, Try.ntmps47
    go_wp2_with fail
    refine (SZ.out _ H0.out).mono ?_
    rintro e w' ⟨rfl, rfl⟩
    go_wp2_with fail
    refine (SM.out _).mono ?_
    rintro e w' ⟨rfl, rfl⟩
    -- BB.out the cell's block
    have zz0 := Blk.cellD (BB.out) 0 _ rfl
    have zz1 := Blk.cellD (BB.out) 1 _ rfl
    have zz2 := Blk.cellD (BB.out) 2 _ rfl
    have zf0 := Blk.frozen (BB.out) 0
    have zf1 := Blk.frozen (BB.out) 1
    have zf2 := Blk.frozen (BB.out) 2
    go_wp2
    refine bodyPost_ret (rg_res rfl _ (by first | exact BB.out | exact Blk.new _ [_, _, _] _ | exact ((BB.out.set 0 _).set 1 _).set 2 _) rfl rfl) rfl ?_
    rw [OF.out]
    exact ⟨rfl, by first | exact KB.out | exact (Keeps.refl None w).alloc _ | exact ((KB.out.setCell _ _ (fun h => absurd h (Nat.lt_irrefl _))).setCell _ _ (fun h => absurd h (Nat.lt_irrefl _))).setCell _ _ (fun h => absurd h (Nat.lt_irrefl _))⟩

end Go.Proofs.Ytfldgaiiniknpaa
/- Regions in a law's walk; the law's num and alive. -/
namespace Go.Proofs.Ytfldgaiiniknpaa
open Go.RowKit

section
variable {W w : World} {B q : Nat} {L : FL} {s : FS} {first count : Nat}
theorem lgprogram (h : LF W w B q L s) (hf : first + count ≤ 256) {A : Option Addr} {m c : Nat} {zs : List Int} (hb : Lb w L A m c zs) (a : Int) (hst : 0 ≤ s.steps ∧ s.steps + m ≤ 1000000000000) :
    Calls Try.prog 69 #[.agg #[.pointer (some ⟨q, 0, none⟩), .int .i64 first, .int .i64 count], .int .i64 a, .slice A m c] w (LTurn W w B q L (s.gprog first count a zs)) :=
  (gprogram_any B L s q first count a A m c zs w h.at_ h.q hf hb.bs hst hb.apS).mono fun e w' ⟨h1, L', t⟩ => ⟨h1, L', h.turn t, t⟩
theorem lgerase (h : LF W w B q L s) (hf : first + count ≤ 256) (k : Int) (hst : 0 ≤ s.steps ∧ s.steps ≤ 1000000000000) (her : ∀ i, 0 ≤ s.er.getD i 0 ∧ s.er.getD i 0 ≤ 1000000000000) :
    Calls Try.prog 83 #[.agg #[.pointer (some ⟨q, 0, none⟩), .int .i64 first, .int .i64 count], .int .i64 k] w (LTurn W w B q L (s.gerase first count k)) :=
  (gerase_any B L s q first count k w h.at_ h.q hf hst her).mono fun e w' ⟨h1, L', t⟩ => ⟨h1, L', h.turn t, t⟩
theorem lgof (h : LF W w B q L s) (a m : Int) : Calls Try.prog 47 #[.pointer (some ⟨q, 0, none⟩), .int .i64 a, .int .i64 m] w (Pure (ofF (some ⟨q, 0, none⟩) a m s.er.length 0) w) := by
  have := gof_any B L s q a m w h.at_ h.q
  rwa [← h.at_.el] at this
theorem lgread (h : LF W w B q L s) (hf : first + count ≤ 256) (a m : Int) : Calls Try.prog 62 #[.agg #[.pointer (some ⟨q, 0, none⟩), .int .i64 first, .int .i64 count], .int .i64 a, .int .i64 m] w (ReadTold w (s.gread first count a m)) := gread_any B L s q first count a m w h.at_ h.q hf
theorem lgblank (h : LF W w B q L s) (hf : first + count ≤ s.er.length) (k : Int) : Calls Try.prog 82 #[.agg #[.pointer (some ⟨q, 0, none⟩), .int .i64 first, .int .i64 count], .int .i64 k] w (Pure (.tuple #[.bool (s.gblank first count k).1, .int .i64 (s.gblank first count k).2]) w) :=
  gisblank_any B L s q first count k w h.at_ h.q (by rw [← h.at_.el]; exact hf)
end
theorem ofF_yes {p : Option Addr} {a m n b : Int} (h : someB a m n = true) : ofF p a m n b = .tuple #[.agg #[.pointer p, .int .i64 (b + a), .int .i64 m], .int .i64 0] := if_pos h
theorem ofF_no {p : Option Addr} {a m n b : Int} (h : someB a m n = false) : ofF p a m n b = .tuple #[rg0, .int .i64 1] := by unfold ofF; rw [h]; rfl

end Go.Proofs.Ytfldgaiiniknpaa
/- The walk of the reference's PutRecord. -/
namespace Go.Proofs.Ytfldgaiiniknpaa
open Go.RowKit

theorem low2_any (n : Nat) (h : n < 65536) (w : World) : Calls Try.prog 39 #[.int .u64 (n : Int), .int .i64 2] w (Cloned w [(n : Int) % 256, (n : Int) / 256]) := by
  have := rslow_any n 2 w (by omega) (by omega)
  rw [lowL_two n h] at this
  exact this
theorem low4_any (n : Nat) (h : n < 4294967296) (w : World) : Calls Try.prog 39 #[.int .u64 (n : Int), .int .i64 4] w (Cloned w (le4 n)) := by
  have := rslow_any n 4 w (by omega) (by omega)
  rw [lowL_four n h] at this
  exact this
end Go.Proofs.Ytfldgaiiniknpaa
/- As Mix, where operations on memory may come in any order that the region allows: a walk for each of the next that may come. -/
namespace Go.Proofs.Ytfldgaiiniknpaa
open Go.RowKit

section Mix4
variable {P : Program} {ops : Array Oper} {C : World → Prop} {Q : Exit → Act → World → Prop} {md : Region.Mode} {E : List Nat} {R R' : Act → World → Prop}

structure MixOkT (md : Region.Mode) (ops : Array Oper) (E : List Nat) : Prop where
  sel : selFree ops
  topo : ∀ i o, ops[i]? = some o → ∀ e ∈ o.after, Region.binds md e = true → e.on < i
  plain : ∀ i o, ops[i]? = some o → E.contains i = false → plainOp o = true
  apart : ∀ i o p op, ops[i]? = some o → ops[p]? = some op → p < i → (∃ e ∈ o.after, Region.binds md e = true ∧ e.on = p) ∨ op.apart ops o = true

def mixTB (md : Region.Mode) (ops : Array Oper) (E : List Nat) : Bool :=
  Region.noSelect ops && (List.range ops.size).all fun i => match ops[i]? with
    | none => true
    | some o => o.after.all (fun e => !Region.binds md e || decide (e.on < i)) && (E.contains i || plainOp o) &&
      (List.range i).all fun p => match ops[p]? with
        | none => true
        | some op => (o.after.any (fun e => Region.binds md e && e.on == p) || op.apart ops o)

theorem mixTB_ok (h : mixTB md ops E = true) : MixOkT md ops E := by
  unfold mixTB at h
  simp only [Bool.and_eq_true, List.all_eq_true, List.mem_range] at h
  obtain ⟨hs, h⟩ := h
  have lt : ∀ i o, ops[i]? = some o → i < ops.size := fun i o ho => (Array.getElem?_eq_some_iff.1 ho).1
  have get : ∀ i o, ops[i]? = some o → _ := fun i o ho => by
    have := h i (lt i o ho)
    simp only [ho, Bool.and_eq_true] at this
    exact this
  refine ⟨Region.noSelect_spec hs, ?_, ?_, ?_⟩
  · intro i o ho e he hb
    have := Array.all_eq_true'.1 (get i o ho).1.1 e he
    simp only [hb, Bool.not_true, Bool.false_or, decide_eq_true_eq] at this
    exact this
  · intro i o ho hE
    have := (get i o ho).1.2
    rwa [hE, Bool.false_or] at this
  · intro i o p op ho hp hlt
    have := List.all_eq_true.1 (get i o ho).2 p (List.mem_range.2 hlt)
    simp only [hp, Bool.or_eq_true] at this
    rcases this with h1 | h1
    · obtain ⟨e, he, hb⟩ := Array.any_eq_true'.1 h1
      simp only [Bool.and_eq_true, beq_iff_eq] at hb
      exact .inl ⟨e, he, hb⟩
    · exact .inr h1

/-! ### What descends from what -/
theorem descend_self (i : Nat) : ∀ n, i < n → i ∈ descendB md ops i n
  | 0, h => absurd h (Nat.not_lt_zero _)
  | n + 1, h => by
    unfold descendB
    simp only []
    by_cases e : n = i
    · subst e; simp
    · have := descend_self i n (by omega)
      split
      · exact List.mem_cons_of_mem _ this
      · exact this
theorem descend_edge (topo : ∀ i o, ops[i]? = some o → ∀ e ∈ o.after, Region.binds md e = true → e.on < i) {i p : Nat} {op : Oper} (hp : ops[p]? = some op) (he : ∃ e ∈ op.after, Region.binds md e = true ∧ e.on = i) :
    ∀ n j, j ∈ descendB md ops p n → j ∈ descendB md ops i n
  | 0, j, h => by simp [descendB] at h
  | n + 1, j, h => by
    have IH := descend_edge topo hp he n
    unfold descendB at h ⊢
    simp only [] at h ⊢
    have up : ∀ j, j ∈ descendB md ops i n → j ∈ (if (n == i || ((ops[n]?).map fun o => o.after.any fun e => Region.binds md e && (descendB md ops i n).contains e.on).getD false) = true then n :: descendB md ops i n else descendB md ops i n) := fun j hj => by
      split
      · exact List.mem_cons_of_mem _ hj
      · exact hj
    split at h
    · rename_i hc
      rcases List.mem_cons.1 h with rfl | h
      · simp only [Bool.or_eq_true, beq_iff_eq] at hc
        have key : (((ops[j]?).map fun o => o.after.any fun e => Region.binds md e && (descendB md ops i j).contains e.on).getD false) = true := by
          rcases hc with hc | hc
          · subst hc
            obtain ⟨e, hm, hb, hon⟩ := he
            simp only [hp, Option.map_some, Option.getD_some]
            refine Array.any_eq_true'.2 ⟨e, hm, ?_⟩
            have := topo j op hp e hm hb
            simp only [hb, Bool.true_and, List.contains_iff_mem, hon]
            exact descend_self i j (by omega)
          · cases ho : ops[j]? with
            | none => simp [ho] at hc
            | some o =>
              simp only [ho, Option.map_some, Option.getD_some] at hc ⊢
              obtain ⟨e, hm, hb⟩ := Array.any_eq_true'.1 hc
              simp only [Bool.and_eq_true, List.contains_iff_mem] at hb
              refine Array.any_eq_true'.2 ⟨e, hm, ?_⟩
              simp only [hb.1, Bool.true_and, List.contains_iff_mem]
              exact IH _ hb.2
        simp only [key, Bool.or_true, if_true]
        exact List.mem_cons_self
      · exact up j (IH j h)
    · exact up j (IH j h)

/-! ### The walk as a tree -/
def frontLs (md : Region.Mode) (ops : Array Oper) (U : List Nat) (i : Nat) : List Nat := U.filter fun j => (descendB md ops j ops.size).contains i
def restL (md : Region.Mode) (ops : Array Oper) (U : List Nat) (i : Nat) : List Nat := U.filter fun j => !(descendB md ops j ops.size).contains i
/-- No operation on memory that is left has to come ahead of i. -/
def availB (md : Region.Mode) (ops : Array Oper) (E U : List Nat) (i : Nat) : Bool := U.all fun e => !E.contains e || e == i || !(descendB md ops e ops.size).contains i

def wpT (P : Program) (md : Region.Mode) (ops : Array Oper) (C : World → Prop) (E : List Nat) (R : Act → World → Prop) : Nat → List Nat → Act → World → Prop
  | 0, U, a, w => wpMixI P md ops C E R U a w
  | n + 1, U, a, w => ((∀ i ∈ U, E.contains i = false) → wpMixI P md ops C E R U a w) ∧
      ∀ i ∈ U, E.contains i = true → availB md ops E U i = true → wpMixI P md ops C E (fun a w => wpT P md ops C E R n (restL md ops U i) a w) (frontLs md ops U i) a w
/-- Where the tree ends the operations on memory come one behind the other. -/
def chkT (md : Region.Mode) (ops : Array Oper) (E : List Nat) : Nat → List Nat → Prop
  | 0, U => ∀ i ∈ U, ∀ p ∈ U, p < i → E.contains p = true → E.contains i = true → i ∈ descendB md ops p ops.size
  | n + 1, U => ∀ i ∈ U, E.contains i = true → availB md ops E U i = true → chkT md ops E n (U.filter fun j => j != i)

theorem avail_spec {U : List Nat} {i : Nat} : availB md ops E U i = true ↔ ∀ e ∈ U, E.contains e = true → e ≠ i → i ∉ descendB md ops e ops.size := by
  unfold availB
  simp only [List.all_eq_true, Bool.or_eq_true, Bool.not_eq_true', beq_iff_eq]
  constructor
  · intro h e he hE hne
    rcases h e he with (h1 | h1) | h1
    · rw [hE] at h1; cases h1
    · exact absurd h1 hne
    · simpa using h1
  · intro h e he
    cases hE : E.contains e with
    | false => exact .inl (.inl rfl)
    | true =>
      by_cases hne : e = i
      · exact .inl (.inr hne)
      · exact .inr (by simpa using h e he hE hne)

/-- A plain operation i leaves. -/
theorem avail_drop {U : List Nat} {i e : Nat} (hi : E.contains i = false) (h : availB md ops E (U.filter fun j => j != i) e = true) : availB md ops E U e = true := by
  rw [avail_spec] at h ⊢
  intro x hx hE hne
  refine h x (List.mem_filter.2 ⟨hx, ?_⟩) hE hne
  have : x ≠ i := fun hh => by subst hh; rw [hE] at hi; cases hi
  simpa using this
theorem chk_drop {i : Nat} (hi : E.contains i = false) : ∀ (n : Nat) (U : List Nat), chkT md ops E n U → chkT md ops E n (U.filter fun j => j != i)
  | 0, U, h => fun x hx p hp => h x (List.mem_filter.1 hx).1 p (List.mem_filter.1 hp).1
  | n + 1, U, h => fun x hx hE hav => by
    have h1 := chk_drop hi n _ (h x (List.mem_filter.1 hx).1 hE (avail_drop hi hav))
    rw [List.filter_filter] at h1 ⊢
    have : (fun a => (a != i) && (a != x)) = (fun a => (a != x) && (a != i)) := by funext a; exact Bool.and_comm _ _
    rw [this] at h1
    exact h1

/-- As mix_pickA: the operation lies in what follows. -/
theorem mix_pickG (hsel : selFree ops) {i : Nat} {o : Oper} (ho : ops[i]? = some o) (hp : plainOp o = true) (hR : ∀ a w, C w → R a w → ∃ v, YieldsIn P ops C o v a ∧ R' (a.put o.dst v) w) :
    ∀ (pre : List Nat) (a : Act) (w : World), (∀ p ∈ pre, ∀ op, ops[p]? = some op → (∀ d, op.dst = some d → d ∉ o.looksAt ops) ∧ (∀ d, op.dst = some d → o.dst ≠ some d) ∧ (∀ d, o.dst = some d → d ∉ op.looksAt ops)) → (∀ p ∈ pre, E.contains p = true → openB md ops E p = true) →
      C w → wpMixI P md ops C E R pre a w → ∃ v, YieldsIn P ops C o v a ∧ wpMixI P md ops C E R' pre (a.put o.dst v) w
  | [], a, w, _, _, hC, h => hR a w hC h
  | p :: pre, a, w, hap, hop, hC, h => by
    have hap' := fun q (hq : q ∈ pre) => hap q (List.mem_cons_of_mem _ hq)
    have hop' : ∀ q ∈ pre, E.contains q = true → openB md ops E q = true := fun q hq => hop q (List.mem_cons_of_mem _ hq)
    have IH := mix_pickG hsel ho hp hR pre
    cases hop0 : ops[p]? with
    | none =>
      rw [mix_none hop0] at h
      obtain ⟨v, h1, h2⟩ := IH a w hap' hop' hC h
      exact ⟨v, h1, by rw [mix_none hop0]; exact h2⟩
    | some op =>
      obtain ⟨ap1, ap2, ap3⟩ := hap p List.mem_cons_self op hop0
      have so : ∀ cs b, o.op ≠ .select cs b := fun cs b => hsel i o cs b ho
      have sp : ∀ cs b, op.op ≠ .select cs b := fun cs b => hsel p op cs b hop0
      rw [mix_cons hop0] at h
      have hwv : ∀ v, Region.wanted op (yielded ops (a.put o.dst v).tmps) = Region.wanted op (yielded ops a.tmps) := fun v => wanted_put op a o.dst v ap3
      have ap2' : ∀ t, o.dst = some t → op.dst ≠ some t := fun t ht hh => ap2 t hh ht
      by_cases hw : Region.wanted op (yielded ops a.tmps) = true
      · simp only [hw, if_true] at h
        cases hE : E.contains p with
        | true =>
          simp only [hE, if_true] at h
          have hopen := hop p List.mem_cons_self hE
          obtain ⟨a1, w1, hl1, hc1, hr1⟩ := wp_some h
          obtain ⟨v, hy, _⟩ := IH a1 w1 hap' hop' (hc1 hopen) hr1
          have hyv := (YieldsIn.of_leaves (P := P) (C := C) hl1 so ap1).1 hy
          refine ⟨v, hyv, ?_⟩
          rw [mix_cons hop0]
          simp only [hwv, hw, if_true, hE]
          refine wp_shift (ops := ops) sp ap3 ap2' (fun a' w' hl hk => ⟨hk.1, ?_⟩) h noExit_any
          obtain ⟨u, hyu, hru⟩ := IH a' w' hap' hop' (hk.1 hopen) hk.2
          have e : u = v := YieldsIn.one hp hC ((YieldsIn.of_leaves (P := P) (C := C) hl so ap1).1 hyu) hyv
          rw [← e]; exact hru
        | false =>
          simp only [hE, Bool.false_eq_true, if_false] at h
          obtain ⟨u, hu, hr⟩ := h
          obtain ⟨v, hy, hrv⟩ := IH _ w hap' hop' hC hr
          have hyv := (YieldsIn.of_leaves (P := P) (C := C) ⟨u, a.defers, rfl⟩ so ap1).1 hy
          refine ⟨v, hyv, ?_⟩
          rw [mix_cons hop0]
          simp only [hwv, hw, if_true, hE, Bool.false_eq_true, if_false]
          refine ⟨u, fun w' hw' => ?_, ?_⟩
          · have := hu w' hw'
            unfold Oper.quietAt at *
            rwa [execOp_put op sp a o.dst v ap3]
          · rw [Act.put_comm a v u (fun t ht => ap2' t ht)]; exact hrv
      · simp only [hw, Bool.false_eq_true, if_false] at h
        obtain ⟨v, hy, hrv⟩ := IH _ w hap' hop' hC h
        have hyv := (YieldsIn.of_leaves (P := P) (C := C) ⟨undef, a.defers, rfl⟩ so ap1).1 hy
        refine ⟨v, hyv, ?_⟩
        rw [mix_cons hop0]
        simp only [hwv, hw, Bool.false_eq_true, if_false]
        rw [Act.put_comm a v undef (fun t ht => ap2' t ht)]; exact hrv

/-- A list in the order of the text, cut at one of its members. -/
theorem cut_at {U : List Nat} (hpw : U.Pairwise (· < ·)) {i : Nat} (hi : i ∈ U) : ∃ pre post, U = pre ++ i :: post ∧ (U.filter fun j => j != i) = pre ++ post ∧ ∀ p ∈ pre, p < i := by
  obtain ⟨pre, post, hsplit⟩ := List.append_of_mem hi
  rw [hsplit] at hpw
  have hpre : ∀ p ∈ pre, p < i := fun p hp => (List.pairwise_append.1 hpw).2.2 p hp i List.mem_cons_self
  have hpost : ∀ p ∈ post, i < p := fun p hp => (List.pairwise_cons.1 (List.pairwise_append.1 hpw).2.1).1 p hp
  refine ⟨pre, post, hsplit, ?_, hpre⟩
  rw [hsplit, List.filter_append, List.filter_cons]
  have f1 : pre.filter (fun j => j != i) = pre := List.filter_eq_self.2 fun p hp => by have := hpre p hp; simp; omega
  have f2 : post.filter (fun j => j != i) = post := List.filter_eq_self.2 fun p hp => by have := hpost p hp; simp; omega
  simp [f1, f2]

/-- A plain operation that is ready may be taken first, whatever order is to come. -/
theorem pickT (ok : MixOkT md ops E) {i : Nat} {o : Oper} (ho : ops[i]? = some o) (hi : E.contains i = false) :
    ∀ (n : Nat) (U : List Nat) (a : Act) (w : World), U.Pairwise (· < ·) → i ∈ U → (∀ q ∈ U, q ≠ i → i ∉ descendB md ops q ops.size) → C w → wpT P md ops C E R n U a w →
      ∃ v, YieldsIn P ops C o v a ∧ wpT P md ops C E R n (U.filter fun j => j != i) (a.put o.dst v) w := by
  have hpl := ok.plain i o ho hi
  have hlt : i < ops.size := (Array.getElem?_eq_some_iff.1 ho).1
  have edge : ∀ p op, ops[p]? = some op → p < i → (∃ e ∈ o.after, Region.binds md e = true ∧ e.on = p) → i ∈ descendB md ops p ops.size := fun p op hop _ he => descend_edge ok.topo ho he ops.size i (descend_self i ops.size hlt)
  have opn : ∀ p, p ∉ descendB md ops i ops.size → openB md ops E p = true := fun p hd => by
    unfold openB
    refine List.any_eq_true.2 ⟨i, List.mem_range.2 hlt, ?_⟩
    rw [hi]
    simp [hd]
  -- the flat walk
  have flat : ∀ (K : Act → World → Prop) (U : List Nat) (a : Act) (w : World), U.Pairwise (· < ·) → i ∈ U → (∀ q ∈ U, q ≠ i → i ∉ descendB md ops q ops.size) → C w → wpMixI P md ops C E K U a w →
      ∃ v, YieldsIn P ops C o v a ∧ wpMixI P md ops C E K (U.filter fun j => j != i) (a.put o.dst v) w := fun K U a w hpw him hrd hC h => by
    obtain ⟨pre, post, e1, e2, hpre⟩ := cut_at hpw him
    rw [e2]
    rw [e1] at h
    refine mix_pickA ok.sel ho hi hpl post pre a w (fun p hp op hop => ?_) (fun p hp _ => opn p fun hd => ?_) hC h
    · rcases ok.apart i o p op ho hop (hpre p hp) with he | ha
      · exact absurd (edge p op hop (hpre p hp) he) (hrd p (by rw [e1]; exact List.mem_append_left _ hp) (by have := hpre p hp; omega))
      · exact ha
    · have := descend_ge ok.topo i _ p hd
      have := hpre p hp
      omega
  intro n
  induction n with
  | zero => exact fun U a w hpw him hrd hC h => flat R U a w hpw him hrd hC h
  | succ n ih =>
    intro U a w hpw him hrd hC h
    obtain ⟨h0, h1⟩ := h
    by_cases hex : ∀ e ∈ U, E.contains e = false
    · obtain ⟨v, hy, hr⟩ := flat R U a w hpw him hrd hC (h0 hex)
      exact ⟨v, hy, fun _ => hr, fun e he hE _ => absurd hE (by rw [hex e (List.mem_filter.1 he).1]; decide)⟩
    · -- one branch
      have branch : ∀ e ∈ U, E.contains e = true → availB md ops E U e = true → ∃ v, YieldsIn P ops C o v a ∧ wpMixI P md ops C E (fun a w => wpT P md ops C E R n (restL md ops (U.filter fun j => j != i) e) a w) (frontLs md ops (U.filter fun j => j != i) e) (a.put o.dst v) w := by
        intro e he hE hav
        have hb := h1 e he hE hav
        have cm : ∀ f : Nat → Bool, (U.filter fun j => j != i).filter f = (U.filter f).filter fun j => j != i := fun f => by
          rw [List.filter_filter, List.filter_filter]
          refine List.filter_congr fun x _ => Bool.and_comm _ _
        have nof : ∀ f : Nat → Bool, f i = false → (U.filter f).filter (fun j => j != i) = U.filter f := fun f hf => List.filter_eq_self.2 fun x hx => by
          have h2 := (List.mem_filter.1 hx).2
          have : x ≠ i := fun hh => by subst hh; rw [hf] at h2; cases h2
          simpa using this
        by_cases hin : e ∈ descendB md ops i ops.size
        · have hc : (descendB md ops i ops.size).contains e = true := List.contains_iff_mem.2 hin
          have e1 : restL md ops (U.filter fun j => j != i) e = restL md ops U e := by unfold restL; rw [cm, nof _ (by rw [hc]; rfl)]
          have e2 : frontLs md ops (U.filter fun j => j != i) e = (frontLs md ops U e).filter fun j => j != i := by unfold frontLs; rw [cm]
          rw [e1, e2]
          exact flat _ _ a w (List.Pairwise.filter _ hpw) (List.mem_filter.2 ⟨him, hc⟩) (fun q hq => hrd q (List.mem_filter.1 hq).1) hC hb
        · have hc : (descendB md ops i ops.size).contains e = false := by simpa using hin
          have e1 : restL md ops (U.filter fun j => j != i) e = (restL md ops U e).filter fun j => j != i := by unfold restL; rw [cm]
          have e2 : frontLs md ops (U.filter fun j => j != i) e = frontLs md ops U e := by unfold frontLs; rw [cm, nof _ hc]
          rw [e1, e2]
          refine mix_pickG ok.sel ho hpl (fun a w hC h => ih _ a w (List.Pairwise.filter _ hpw) (List.mem_filter.2 ⟨him, by rw [hc]; rfl⟩) (fun q hq => hrd q (List.mem_filter.1 hq).1) hC h) _ a w (fun p hp op hop => ?_) (fun p hp hEp => opn p fun hd => ?_) hC hb
          · obtain ⟨hpU, hpe⟩ := List.mem_filter.1 hp
            have hpi : p ≠ i := fun hh => by subst hh; rw [hc] at hpe; cases hpe
            rcases Nat.lt_or_gt_of_ne hpi with hlt' | hgt
            · rcases ok.apart i o p op ho hop hlt' with hed | ha
              · exact absurd (edge p op hop hlt' hed) (hrd p hpU hpi)
              · exact Oper.apart_spec ha
            · rcases ok.apart p op i o hop ho hgt with hed | ha
              · exact absurd (descend_edge ok.topo hop hed ops.size e (List.contains_iff_mem.1 hpe)) hin
              · obtain ⟨q1, q2, q3⟩ := Oper.apart_spec ha
                exact ⟨q3, fun d hd hd' => q2 d hd' hd, q1⟩
          · -- the one operation on memory in front is e
            obtain ⟨hpU, hpe⟩ := List.mem_filter.1 hp
            have : p = e := Classical.byContradiction fun hne => (avail_spec.1 hav) p hpU hEp hne (List.contains_iff_mem.1 hpe)
            subst this
            exact hin hd
      -- the first of the text is a branch
      have hexE : ∃ e0 ∈ U, E.contains e0 = true ∧ availB md ops E U e0 = true := by
        have hne : (U.filter fun e => E.contains e) ≠ [] := fun hnil => hex fun e he => by
          cases hE : E.contains e with
          | false => rfl
          | true =>
            have : e ∈ U.filter fun e => E.contains e := List.mem_filter.2 ⟨he, hE⟩
            rw [hnil] at this; cases this
        cases hl : U.filter fun e => E.contains e with
        | nil => exact absurd hl hne
        | cons e0 es =>
          have hm : e0 ∈ U.filter fun e => E.contains e := by rw [hl]; exact List.mem_cons_self
          obtain ⟨hU, hE⟩ := List.mem_filter.1 hm
          refine ⟨e0, hU, hE, avail_spec.2 fun x hx hEx hne hd => ?_⟩
          have hpw2 : (U.filter fun e => E.contains e).Pairwise (· < ·) := List.Pairwise.filter _ hpw
          rw [hl] at hpw2
          have hx2 : x ∈ e0 :: es := by rw [← hl]; exact List.mem_filter.2 ⟨hx, hEx⟩
          rcases List.mem_cons.1 hx2 with rfl | hx3
          · exact hne rfl
          · have h1 := (List.pairwise_cons.1 hpw2).1 x hx3
            have h2 := descend_ge ok.topo x _ e0 hd
            omega
      obtain ⟨e0, he0, hE0, hav0⟩ := hexE
      obtain ⟨v, hy, _⟩ := branch e0 he0 hE0 hav0
      refine ⟨v, hy, fun hno => ?_, fun e he hE hav => ?_⟩
      · have : e0 ≠ i := fun hh => by subst hh; rw [hE0] at hi; cases hi
        have := hno e0 (List.mem_filter.2 ⟨he0, by simpa using this⟩)
        rw [hE0] at this; cases this
      · obtain ⟨v2, hy2, hr2⟩ := branch e (List.mem_filter.1 he).1 hE (avail_drop hi hav)
        have e2 : v2 = v := YieldsIn.one hpl hC hy2 hy
        rw [← e2]; exact hr2

theorem mixT_any (ok : MixOkT md ops E) : ∀ (n : Nat) (listed : Array Bool) (t : Nat) (a : Act) (w : World), (unlB ops listed).length ≤ n → listed.size = ops.size →
    (∀ j oj, ops[j]? = some oj → listed.getD j false = true → ∀ e ∈ oj.after, Region.binds md e = true → listed.getD e.on false = true) →
    (∀ j ∈ unlB ops listed, E.contains j = false → C w) → chkT md ops E t (unlB ops listed) → wpT P md ops C E (fun a w => Q .normal a w) t (unlB ops listed) a w → wpAny P md ops Q n listed a w := by
  have fin : ∀ t a w, wpT P md ops C E (fun a w => Q .normal a w) t [] a w → Q .normal a w := fun t a w h => by
    cases t with
    | zero => exact h
    | succ t => exact h.1 (fun i hi => by cases hi)
  intro n
  induction n with
  | zero =>
    intro listed t a w hlen hsz hcl hC hk h
    have hu : unlB ops listed = [] := List.eq_nil_of_length_eq_zero (Nat.le_zero.1 hlen)
    rw [hu] at h
    refine ⟨?_, fin t a w h⟩
    cases hr : Region.ready md ops listed with
    | nil => rfl
    | cons x xs =>
      have hx : x ∈ Region.ready md ops listed := by rw [hr]; exact List.mem_cons_self
      obtain ⟨h1, o, ho, _⟩ := mem_ready.1 hx
      have : x ∈ unlB ops listed := mem_unl.2 ⟨(Array.getElem?_eq_some_iff.1 ho).1, h1⟩
      rw [hu] at this; cases this
  | succ n ih =>
    intro listed t a w hlen hsz hcl hC hk h
    refine ⟨fun hr => ?_, fun i hi => ?_⟩
    · cases hu : unlB ops listed with
      | nil => rw [hu] at h; exact fin t a w h
      | cons i0 U =>
        exfalso
        have hi0 : i0 ∈ unlB ops listed := by rw [hu]; exact List.mem_cons_self
        obtain ⟨hlt, hun⟩ := mem_unl.1 hi0
        have hpw : (unlB ops listed).Pairwise (· < ·) := List.Pairwise.filter _ List.pairwise_lt_range
        rw [hu, List.pairwise_cons] at hpw
        have : i0 ∈ Region.ready md ops listed := by
          refine mem_ready.2 ⟨hun, ops[i0], by simp [hlt], fun e he hb => ?_⟩
          have hon := ok.topo i0 ops[i0] (by simp [hlt]) e he hb
          cases hl : listed.getD e.on false with
          | true => rfl
          | false =>
            have hm : e.on ∈ unlB ops listed := mem_unl.2 ⟨by omega, getD_in (by omega) hl⟩
            rw [hu] at hm
            rcases List.mem_cons.1 hm with hm | hm
            · omega
            · have := hpw.1 _ hm; omega
        rw [hr] at this; cases this
    · obtain ⟨hun, o, ho, hall⟩ := mem_ready.1 hi
      have hlt : i < ops.size := (Array.getElem?_eq_some_iff.1 ho).1
      have hmem : i ∈ unlB ops listed := mem_unl.2 ⟨hlt, hun⟩
      have hpw : (unlB ops listed).Pairwise (· < ·) := List.Pairwise.filter _ List.pairwise_lt_range
      obtain ⟨pre, post, hsplit, hflt, hpre⟩ := cut_at hpw hmem
      have hsz' : (listed.setIfInBounds i true).size = ops.size := by simp [hsz]
      have hcl' : ∀ j oj, ops[j]? = some oj → (listed.setIfInBounds i true).getD j false = true → ∀ e ∈ oj.after, Region.binds md e = true → (listed.setIfInBounds i true).getD e.on false = true := by
        intro j oj hj hl e he hb
        by_cases hij : i = j
        · subst hij
          have : oj = o := Option.some.inj (hj.symm.trans ho)
          subst this
          exact getD_set_true (hall e he hb)
        · rw [getD_set_ne false hij] at hl
          exact getD_set_true (hcl j oj hj hl e he hb)
      have hu' : unlB ops (listed.setIfInBounds i true) = (unlB ops listed).filter (fun j => j != i) := by
        unfold unlB
        rw [List.filter_filter]
        refine List.filter_congr fun j hj => ?_
        by_cases hij : i = j
        · subst hij
          have : (listed.setIfInBounds i true).getD i true = true := by
            have : i < listed.size := by omega
            simp [this]
          simp [this]
        · rw [getD_set_ne true hij]
          have : (j != i) = true := by simp; exact fun e => hij e.symm
          simp [this]
      have hlen' : (unlB ops (listed.setIfInBounds i true)).length ≤ n := by
        rw [hu', hflt]; rw [hsplit] at hlen; simp at hlen ⊢; omega
      have hnot : ∀ j ∈ unlB ops listed, j ≠ i → i ∉ descendB md ops j ops.size := by
        intro j hj hne hd
        have := (descend_listed hcl j ops.size i hd).2 (fun e => hne e.symm) (fun oj hoj e he hb => by
          have : oj = o := Option.some.inj (hoj.symm.trans ho)
          subst this
          exact hall e he hb)
        rw [getD_both (mem_unl.1 hj).2] at this
        cases this
      have keep : ∀ t a' w', chkT md ops E t ((unlB ops listed).filter fun j => j != i) → (∀ j ∈ (unlB ops listed).filter (fun j => j != i), E.contains j = false → C w') → wpT P md ops C E (fun a w => Q .normal a w) t ((unlB ops listed).filter fun j => j != i) a' w' → wpAny P md ops Q n (listed.setIfInBounds i true) a' w' :=
        fun t a' w' hk' hc hh => ih _ t a' w' hlen' hsz' hcl' (by rw [hu']; exact hc) (by rw [hu']; exact hk') (by rw [hu']; exact hh)
      have hopen : ∀ j ∈ (unlB ops listed).filter (fun j => j != i), E.contains j = false → openB md ops E i = true := by
        intro j hj hEj
        obtain ⟨hjU, hji⟩ := List.mem_filter.1 hj
        have hji' : j ≠ i := by simpa using hji
        unfold openB
        refine List.any_eq_true.2 ⟨j, List.mem_range.2 (mem_unl.1 hjU).1, ?_⟩
        have := hnot j hjU hji'
        rw [hEj]
        simp [this]
      cases hE : E.contains i with
      | false =>
        have hCw := hC i hmem hE
        obtain ⟨v, hy, hr⟩ := pickT ok ho hE t _ a w hpw hmem (fun q hq hne => hnot q hq hne) hCw h
        exact wpOp_of_yields ho (ok.plain i o ho hE) hCw hy (keep t _ _ (chk_drop hE t _ hk) (fun _ _ _ => hCw) hr)
      | true =>
        cases t with
        | zero =>
          have hne : ∀ p ∈ pre, E.contains p = false := by
            intro p hp
            have hpU : p ∈ unlB ops listed := by rw [hsplit]; exact List.mem_append_left _ hp
            cases hEp : E.contains p with
            | false => rfl
            | true => exact absurd (hk i hmem p hpU (hpre p hp) hEp hE) (hnot p hpU (by have := hpre p hp; omega))
          have hap : ∀ p ∈ pre, ∀ op, ops[p]? = some op → op.apart ops o = true := by
            intro p hp op hop
            have hpU : p ∈ unlB ops listed := by rw [hsplit]; exact List.mem_append_left _ hp
            rcases ok.apart i o p op ho hop (hpre p hp) with he | h1
            · exact absurd (descend_edge ok.topo ho he ops.size i (descend_self i ops.size hlt)) (hnot p hpU (by have := hpre p hp; omega))
            · exact h1
          have h' : wpMixI P md ops C E (fun a w => Q .normal a w) (pre ++ i :: post) a w := by rw [← hsplit]; exact h
          have hk0 : chkT md ops E 0 ((unlB ops listed).filter fun j => j != i) := fun x hx p hp => hk x (List.mem_filter.1 hx).1 p (List.mem_filter.1 hp).1
          unfold wpOp
          simp only [ho]
          rcases mix_pickB ok.sel ho hE post pre a w hap hne h' with ⟨h1, h2⟩ | ⟨h1, h2⟩
          · simp only [h1, if_true]
            left
            refine wp_noExit (Oper.wp_mono (fun a' w' hh => keep 0 a' w' hk0 (fun j hj hEj => hh.1 (hopen j hj hEj)) (by rw [hflt]; exact hh.2)) h2)
          · simp only [h1, Bool.false_eq_true, if_false]
            exact keep 0 _ _ hk0 (fun j hj hEj => hC j (List.mem_filter.1 hj).1 hEj) (by rw [hflt]; exact h2)
        | succ t =>
          have hav : availB md ops E (unlB ops listed) i = true := avail_spec.2 fun e he _ hne => hnot e he hne
          have hb := h.2 i hmem hE hav
          have hk' := hk i hmem hE hav
          have hf : frontLs md ops (unlB ops listed) i = [i] := by
            have e1 : frontLs md ops (unlB ops listed) i = (unlB ops listed).filter fun j => j == i := by
              unfold frontLs
              refine List.filter_congr fun j hj => ?_
              by_cases hji : j = i
              · subst hji
                simp [descend_self j ops.size hlt]
              · have := hnot j hj hji
                simp [this, hji]
            rw [e1, hsplit, List.filter_append, List.filter_cons]
            have hpost : ∀ p ∈ post, i < p := fun p hp => by
              rw [hsplit] at hpw
              exact (List.pairwise_cons.1 (List.pairwise_append.1 hpw).2.1).1 p hp
            have f1 : pre.filter (fun j => j == i) = [] := List.filter_eq_nil_iff.2 fun p hp => by have := hpre p hp; simp; omega
            have f2 : post.filter (fun j => j == i) = [] := List.filter_eq_nil_iff.2 fun p hp => by have := hpost p hp; simp; omega
            simp [f1, f2]
          have hr : restL md ops (unlB ops listed) i = (unlB ops listed).filter fun j => j != i := by
            unfold restL
            refine List.filter_congr fun j hj => ?_
            by_cases hji : j = i
            · subst hji
              simp [descend_self j ops.size hlt]
            · have := hnot j hj hji
              simp [this, hji]
          rw [hf, hr, mix_cons ho] at hb
          unfold wpOp
          simp only [ho]
          by_cases hw : Region.wanted o (yielded ops a.tmps) = true
          · simp only [hw, if_true, hE] at hb ⊢
            left
            refine wp_noExit (Oper.wp_mono (fun a' w' hh => keep t a' w' hk' (fun j hj hEj => hh.1 (hopen j hj hEj)) hh.2) hb)
          · simp only [hw, Bool.false_eq_true, if_false] at hb ⊢
            exact keep t _ _ hk' (fun j hj hEj => hC j (List.mem_filter.1 hj).1 hEj) hb

/-! ### What the walks use -/
def flatP (ps : List (Nat × Nat)) : List Nat := ps.flatMap fun p => List.range' p.1 p.2
/-- Stretches of the text, one behind the other. -/
def wpPs (P : Program) (l : List Oper) (C : World → Prop) (E : List Nat) (K : Act → World → Prop) : List (Nat × Nat) → Act → World → Prop
  | [], a, w => K a w
  | p :: ps, a, w => wpMix P l.toArray C E (fun _ a w => wpPs P l C E K ps a w) p.1 ((l.drop p.1).take p.2) a w
theorem wpPs_nil {l : List Oper} {K : Act → World → Prop} {a : Act} {w : World} (h : K a w) : wpPs P l C E K [] a w := h
theorem wpPs_cons {l : List Oper} {K : Act → World → Prop} {k m : Nat} {ps : List (Nat × Nat)} {a : Act} {w : World} (h : wpMix P l.toArray C E (fun _ a w => wpPs P l C E K ps a w) k ((l.drop k).take m) a w) : wpPs P l C E K ((k, m) :: ps) a w := h
def inL (n : Nat) (ps : List (Nat × Nat)) : Bool := ps.all fun p => decide (p.1 + p.2 ≤ n)
theorem mixI_of_ps {l : List Oper} {K : Act → World → Prop} : ∀ (ps : List (Nat × Nat)) (a : Act) (w : World), inL l.length ps = true → wpPs P l C E K ps a w → wpMixI P .any l.toArray C E K (flatP ps) a w
  | [], a, w, _, h => h
  | p :: ps, a, w, hb, h => by
    have hb' : p.1 + p.2 ≤ l.length ∧ inL l.length ps = true := by
      unfold inL at hb ⊢
      simpa using hb
    show wpMixI P .any l.toArray C E K (List.range' p.1 p.2 ++ flatP ps) a w
    exact wpMixI_append _ _ _ _ (wpMixI_mono (fun a w h => mixI_of_ps ps a w hb'.2 h) _ _ _ (seg_of p.1 p.2 hb'.1 h))
theorem wpT_leaf {l : List Oper} {ps : List (Nat × Nat)} {a : Act} {w : World} (hb : inL l.length ps = true) (h : wpPs P l C E R ps a w) : wpT P .any l.toArray C E R 0 (flatP ps) a w := mixI_of_ps ps a w hb h

abbrev Pcs := List (Nat × Nat)
def nodeB (l : List Oper) (E : List Nat) (us : Pcs) (brs : List (Pcs × Pcs)) : Bool :=
  (flatP us).any (fun i => E.contains i) && ((flatP us).filter fun i => E.contains i && availB .any l.toArray E (flatP us) i).map (fun i => (frontLs .any l.toArray (flatP us) i, restL .any l.toArray (flatP us) i)) == brs.map (fun b => (flatP b.1, flatP b.2)) &&
    brs.all fun b => inL l.length b.1
theorem wpT_node {l : List Oper} {us : Pcs} {n : Nat} {a : Act} {w : World} (brs : List (Pcs × Pcs)) (hc : nodeB l E us brs = true) (hb : ∀ b ∈ brs, wpPs P l C E (fun a w => wpT P .any l.toArray C E R n (flatP b.2) a w) b.1 a w) : wpT P .any l.toArray C E R (n + 1) (flatP us) a w := by
  unfold nodeB at hc
  rw [Bool.and_eq_true, Bool.and_eq_true, beq_iff_eq] at hc
  obtain ⟨⟨hany, hm⟩, hin'⟩ := hc
  obtain ⟨i0, hi0, hE0⟩ := List.any_eq_true.1 hany
  have hin := List.all_eq_true.1 hin'
  refine ⟨fun hno => absurd (hno i0 hi0) (by rw [hE0]; decide), fun i hi hE hav => ?_⟩
  have h1 : (frontLs .any l.toArray (flatP us) i, restL .any l.toArray (flatP us) i) ∈ brs.map (fun b => (flatP b.1, flatP b.2)) := by
    rw [← hm]
    exact List.mem_map.2 ⟨i, List.mem_filter.2 ⟨hi, by rw [hE, hav]; rfl⟩, rfl⟩
  obtain ⟨b, hbm, he⟩ := List.mem_map.1 h1
  have e1 : flatP b.1 = frontLs .any l.toArray (flatP us) i := congrArg Prod.fst he
  have e2 : flatP b.2 = restL .any l.toArray (flatP us) i := congrArg Prod.snd he
  rw [← e1, ← e2]
  exact mixI_of_ps b.1 a w (hin b hbm) (hb b hbm)
theorem wpT_node1 {l : List Oper} {us : Pcs} {n : Nat} {a : Act} {w : World} (f1 r1 : Pcs) (hc : nodeB l E us [(f1, r1)] = true) (h1 : wpPs P l C E (fun a w => wpT P .any l.toArray C E R n (flatP r1) a w) f1 a w) : wpT P .any l.toArray C E R (n + 1) (flatP us) a w :=
  wpT_node _ hc (by intro b hb; simp only [List.mem_cons, List.not_mem_nil, or_false] at hb; rw [hb]; exact h1)
theorem wpT_node2 {l : List Oper} {us : Pcs} {n : Nat} {a : Act} {w : World} (f1 r1 f2 r2 : Pcs) (hc : nodeB l E us [(f1, r1), (f2, r2)] = true) (h1 : wpPs P l C E (fun a w => wpT P .any l.toArray C E R n (flatP r1) a w) f1 a w)
    (h2 : wpPs P l C E (fun a w => wpT P .any l.toArray C E R n (flatP r2) a w) f2 a w) : wpT P .any l.toArray C E R (n + 1) (flatP us) a w :=
  wpT_node _ hc (by intro b hb; simp only [List.mem_cons, List.not_mem_nil, or_false] at hb; rcases hb with e | e <;> rw [e]; exact h1; exact h2)
theorem wpT_node3 {l : List Oper} {us : Pcs} {n : Nat} {a : Act} {w : World} (f1 r1 f2 r2 f3 r3 : Pcs) (hc : nodeB l E us [(f1, r1), (f2, r2), (f3, r3)] = true) (h1 : wpPs P l C E (fun a w => wpT P .any l.toArray C E R n (flatP r1) a w) f1 a w)
    (h2 : wpPs P l C E (fun a w => wpT P .any l.toArray C E R n (flatP r2) a w) f2 a w) (h3 : wpPs P l C E (fun a w => wpT P .any l.toArray C E R n (flatP r3) a w) f3 a w) : wpT P .any l.toArray C E R (n + 1) (flatP us) a w :=
  wpT_node _ hc (by intro b hb; simp only [List.mem_cons, List.not_mem_nil, or_false] at hb; rcases hb with e | e | e <;> rw [e]; exact h1; exact h2; exact h3)

def chkTB (md : Region.Mode) (ops : Array Oper) (E : List Nat) : Nat → List Nat → Bool
  | 0, U => U.all fun i => !E.contains i || U.all fun p => !(decide (p < i) && E.contains p) || (descendB md ops p ops.size).contains i
  | n + 1, U => U.all fun i => !(E.contains i && availB md ops E U i) || chkTB md ops E n (U.filter fun j => j != i)
theorem chkTB_ok : ∀ (n : Nat) (U : List Nat), chkTB md ops E n U = true → chkT md ops E n U
  | 0, U, h => fun i hi p hp hlt hEp hE => by
    unfold chkTB at h
    have h1 := List.all_eq_true.1 h i hi
    rw [hE] at h1
    have h2 := List.all_eq_true.1 (by simpa using h1 : (U.all fun p => !(decide (p < i) && E.contains p) || (descendB md ops p ops.size).contains i) = true) p hp
    rw [hEp, decide_eq_true hlt] at h2
    simpa using h2
  | n + 1, U, h => fun i hi hE hav => by
    unfold chkTB at h
    have h1 := List.all_eq_true.1 h i hi
    rw [hE, hav] at h1
    exact chkTB_ok n _ (by simpa using h1)

theorem wp_region_mixT {id : Nat} {a : Act} {w : World} {l : List Oper} (E : List Nat) (C : World → Prop) (t : Nat) (n : Nat) (hn : l.length = n) (hm : P.follows .mixedOrders = true) (hB : mixTB .any l.toArray E = true) (hk : chkTB .any l.toArray E t (List.range n) = true) (hC : C w.drew)
    (h : wpT P .any l.toArray C E (fun a w => Q .normal a w) t (flatP [(0, n)]) a w.drew) : (Code.region id l.toArray true).wp P Q a w := by
  have ok := mixTB_ok hB
  subst hn
  have hfl : flatP [(0, l.length)] = List.range l.length := by rw [List.range_eq_range']; show List.range' 0 l.length ++ [] = _; rw [List.append_nil]
  rw [hfl] at h
  have hu : unlB l.toArray (Array.replicate l.toArray.size false) = List.range l.length := by
    unfold unlB
    rw [List.filter_eq_self.2]
    · simp
    · intro i hi
      have hi' : i < l.length := by simpa using hi
      simp [hi']
  refine wp_region_any hm (mixT_any (C := C) (E := E) ok _ _ t a _ ?_ (by simp) ?_ ?_ ?_ ?_)
  · rw [hu]; simp
  · intro j oj _ hl
    rw [getD_replicate_false] at hl; cases hl
  · intro _ _ _; exact hC
  · rw [hu]; exact chkTB_ok _ _ hk
  · rw [hu]; exact h
end Mix4
end Go.Proofs.Ytfldgaiiniknpaa
/- The walk of the reference's GetRecord. -/
namespace Go.Proofs.Ytfldgaiiniknpaa
open Go.RowKit

theorem num2b (a b : Nat) : numN [(a : Int), (b : Int)] = a + b * 256 := by simp [numN]; omega
theorem num4b (a b c d : Nat) : numN [(a : Int), (b : Int), (c : Int), (d : Int)] = a + b * 256 + c * 65536 + d * 16777216 := by simp [numN]; omega
theorem take_get2 {zs : List Int} {k : Nat} (h : k + 2 ≤ zs.length) : (zs.drop k).take 2 = [zs.getD k 0, zs.getD (k + 1) 0] := by
  rw [List.drop_eq_getElem_cons (by omega), List.take_succ_cons, List.drop_eq_getElem_cons (by omega), List.take_succ_cons, List.take_zero]
  simp [List.getD, show k < zs.length by omega, show k + 1 < zs.length by omega]
theorem take_get4 {zs : List Int} {k : Nat} (h : k + 4 ≤ zs.length) : (zs.drop k).take 4 = [zs.getD k 0, zs.getD (k + 1) 0, zs.getD (k + 2) 0, zs.getD (k + 3) 0] := by
  rw [List.drop_eq_getElem_cons (by omega), List.take_succ_cons, List.drop_eq_getElem_cons (by omega), List.take_succ_cons, List.drop_eq_getElem_cons (by omega), List.take_succ_cons, List.drop_eq_getElem_cons (by omega), List.take_succ_cons, List.take_zero]
  simp [List.getD, show k < zs.length by omega, show k + 1 < zs.length by omega, show k + 1 + 1 < zs.length by omega, show k + 1 + 1 + 1 < zs.length by omega]
theorem Own.lt2 {w : World} {B : Nat} {v : Value} {zs : List Int} (h : Own w B v zs) {b : Nat} (hb : v.ownBlock = some b) : b < w.heap.size := by
  rcases h.1.2 with ⟨rfl, _⟩ | ⟨g, cap, cur, rfl, hg, hgg, _⟩
  · cases hb
  · obtain rfl : g = b := by simpa [Value.ownBlock] using hb
    exact (Array.getElem?_eq_some_iff.1 hgg).1
end Go.Proofs.Ytfldgaiiniknpaa
/- Rows of records in memory; the journal in plain words and in memory. -/
namespace Go.Proofs.Ytfldgaiiniknpaa
open Go.RowKit

/-- A record in plain words. -/
structure Rec where
  k : Int
  s : Int
  b : List Int
/-- A record as it lies. -/
structure RV where
  k : Int
  s : Int
  A : Option Addr
  c : Nat
  b : List Int
def RV.v (r : RV) : Value := .slice r.A r.b.length r.c
def RV.r (r : RV) : Rec := ⟨r.k, r.s, r.b⟩
def RV.at_ (r : RV) (b : Nat) : Prop := ∃ off, 0 < r.b.length ∧ r.A = some ⟨b, off, none⟩
def rcell (r : RV) : List Value := [.int .i64 r.k, .int .i64 r.s, r.v]
def rcells : List RV → List Value
  | [] => []
  | t :: ts => rcell t ++ rcells ts
theorem rcells_append (xs ys : List RV) : rcells (xs ++ ys) = rcells xs ++ rcells ys := by
  induction xs with
  | nil => rfl
  | cons t xs ih => simp [rcells, ih]
theorem rcells_length (ts : List RV) : (rcells ts).length = ts.length * 3 := by
  induction ts with
  | nil => rfl
  | cons t ts ih => simp [rcells, rcell, ih]; omega
theorem rcells_get (ts : List RV) (k : Nat) (t : RV) (h : ts[k]? = some t) (j : Nat) (hj : j < 3) : (rcells ts)[k * 3 + j]? = (rcell t)[j]? := by
  induction ts generalizing k with
  | nil => simp at h
  | cons s ts ih =>
    cases k with
    | zero =>
      obtain rfl : s = t := by simpa using h
      simp only [rcells, Nat.zero_mul, Nat.zero_add]
      rw [List.getElem?_append_left (by simp [rcell]; omega)]
    | succ k =>
      simp only [rcells]
      rw [List.getElem?_append_right (by simp [rcell]; omega)]
      have e : (k + 1) * 3 + j - (rcell s).length = k * 3 + j := by simp [rcell]; omega
      rw [e]
      exact ih k (by simpa using h)
/-- A slice that reads as records (their bodies apart). -/
structure Rws (w : World) (A : Option Addr) (n cap : Nat) (rs : List RV) : Prop where
  len : rs.length = n
  le : n ≤ cap
  max : cap ≤ 9223372036854775807
  nil : A = none → n = 0 ∧ cap = 0
  at_ : 0 < n → ∃ b off, A = some ⟨b, off, none⟩ ∧ b < w.heap.size ∧ ∀ k r, rs[k]? = some r → w.cell? ⟨b, off + k * 3, none⟩ = some (.int .i64 r.k) ∧ w.cell? ⟨b, off + k * 3 + 1, none⟩ = some (.int .i64 r.s) ∧ w.cell? ⟨b, off + k * 3 + 2, none⟩ = some r.v
theorem Rws.keeps {w w' : World} {A : Option Addr} {n cap : Nat} {rs : List RV} {S : Nat → Prop} (h : Rws w A n cap rs) (hk : Keeps S w w') (hS : ∀ b off, 0 < n → b < w.heap.size → A = some ⟨b, off, none⟩ → ¬ S b) : Rws w' A n cap rs :=
  ⟨h.len, h.le, h.max, h.nil, fun hn => by
    obtain ⟨b, off, e, hb, hc⟩ := h.at_ hn
    have hb' := hS b off hn hb e
    exact ⟨b, off, e, Nat.lt_of_lt_of_le hb hk.size, fun k r hr => by
      obtain ⟨h0, h1, h2⟩ := hc k r hr
      exact ⟨(hk.cell hb hb').trans h0, (hk.cell hb hb').trans h1, (hk.cell hb hb').trans h2⟩⟩⟩
theorem Rws.later {w w' : World} {A : Option Addr} {n cap : Nat} {rs : List RV} (h : Rws w A n cap rs) (hk : Keeps None w w') : Rws w' A n cap rs := h.keeps hk (fun _ _ _ _ _ h => h)
/-- A row of records of the call's own, from block B on. -/
def OwnR (w : World) (B : Nat) (v : Value) (rs : List RV) : Prop := w.ownsRow B 58 3 v rs.length (rcells rs)
theorem OwnR.nil (w : World) (B : Nat) : OwnR w B (.slice none 0 0) [] := World.ownsRow_nil _ _ _ _
theorem OwnR.keeps {w w' : World} {B : Nat} {v : Value} {rs : List RV} {S : Nat → Prop} (h : OwnR w B v rs) (hk : Keeps S w w') (hS : ∀ b, v.ownBlock = some b → ¬ S b) : OwnR w' B v rs := by
  refine ⟨h.1, ?_⟩
  rcases h.2 with hn | ⟨g, cap, cur, rfl, hb, hg, rest⟩
  · exact .inl hn
  · refine .inr ⟨g, cap, cur, rfl, hb, ?_, rest⟩
    rw [hk.block g (Array.getElem?_eq_some_iff.1 hg).1 (hS g rfl)]; exact hg
theorem OwnR.later {w w' : World} {B : Nat} {v : Value} {rs : List RV} (h : OwnR w B v rs) (hk : Keeps None w w') : OwnR w' B v rs := h.keeps hk (fun _ _ h => h)
theorem OwnR.block {w : World} {B : Nat} {v : Value} {rs : List RV} (h : OwnR w B v rs) {b : Nat} (hb : v.ownBlock = some b) : B ≤ b ∧ b < w.heap.size := by
  rcases h.2 with ⟨rfl, _⟩ | ⟨g, cap, cur, rfl, hg, hgg, _⟩
  · cases hb
  · obtain rfl : g = b := by simpa [Value.ownBlock] using hb
    exact ⟨hg, (Array.getElem?_eq_some_iff.1 hgg).1⟩
theorem OwnR.lower {w : World} {B B' : Nat} {v : Value} {rs : List RV} (h : OwnR w B v rs) (hB : B' ≤ B) : OwnR w B' v rs := by
  refine ⟨h.1, ?_⟩
  rcases h.2 with hn | ⟨g, cap, cur, rfl, hb, rest⟩
  · exact .inl hn
  · exact .inr ⟨g, cap, cur, rfl, Nat.le_trans hB hb, rest⟩
/-- What a row of one's own is. -/
theorem OwnR.shape {w : World} {B : Nat} {v : Value} {rs : List RV} (h : OwnR w B v rs) : ∃ A cap, v = .slice A rs.length cap ∧ Rws w A rs.length cap rs ∧ (∀ b off, A = some ⟨b, off, none⟩ → v.ownBlock = some b ∧ off = 0) := by
  obtain ⟨h1, h2⟩ := h
  rcases h2 with ⟨rfl, hz⟩ | ⟨g, cap, cur, rfl, hg, hgg, hc1, hc2, hlen, htk⟩
  · have : rs = [] := by cases rs with
      | nil => rfl
      | cons t ts => simp at hz
    subst this
    exact ⟨none, 0, rfl, ⟨rfl, Nat.le_refl _, by decide, fun _ => ⟨rfl, rfl⟩, fun h => absurd h (Nat.lt_irrefl _)⟩, fun b off e => by cases e⟩
  · refine ⟨some ⟨g, 0, none⟩, cap, rfl, ⟨rfl, hc1, ?_, (fun e => by cases e), fun hn => ⟨g, 0, rfl, (Array.getElem?_eq_some_iff.1 hgg).1, fun k r hr => ?_⟩⟩, fun b off e => by cases e; exact ⟨rfl, rfl⟩⟩
    · have : maxLen = 9223372036854775807 := rfl
      omega
    · have hk : k < rs.length := (List.getElem?_eq_some_iff.1 hr).1
      have get : ∀ j, j < 3 → w.cell? ⟨g, 0 + k * 3 + j, none⟩ = (rcell r)[j]? := fun j hj => by
        rw [← rcells_get rs k r hr j hj, ← htk]
        rw [List.getElem?_take_of_lt (by omega)]
        simp [World.cell?, hgg]
      exact ⟨get 0 (by decide), get 1 (by decide), get 2 (by decide)⟩
theorem Try.infoRw58 : (Try.prog.info? 58).map (fun i => (i.zero, i.size, i.bytes)) = some (some (.agg #[.int .i64 0, .int .i64 0, .slice none 0 0]), 3, 40) := by kernel_rfl
set_option maxRecDepth 100000 in
theorem rcells_flat (ns : List RV) : ∀ u ∈ rcells ns, u.oneCell' = true := by
  intro u hu
  induction ns with
  | nil => simp [rcells] at hu
  | cons t ns ih =>
    simp only [rcells, List.mem_append] at hu
    rcases hu with hu | hu
    · simp [rcell, RV.v] at hu; rcases hu with rfl | rfl | rfl <;> rfl
    · exact ih hu
set_option maxRecDepth 100000 in
theorem run_append_recs {w : World} {B : Nat} {v : Value} {rs ns : List RV} {A : Option Addr} {m c : Nat} (hown : OwnR w B v rs) (hs : Rws w A m c ns) (hlen : rs.length + m ≤ 1000000) (hB : B ≤ w.heap.size) :
    ∃ v' w', (Builtin.append_ #[41, 41] 41 #[v, .slice A m c]).run Try.prog w = .ok v' w' ∧ OwnR w' B v' (rs ++ ns) ∧ Keeps (fun k => v.ownBlock = some k) w w' ∧ (v'.ownBlock = v.ownBlock ∨ v'.ownBlock = some w.heap.size) := by
  obtain ⟨i, hi, hz0, hz1, hz2⟩ := info_parts Try.infoRw58
  have hnl := hs.len
  cases A with
  | none =>
    obtain ⟨rfl, rfl⟩ := hs.nil rfl
    have e : ns = [] := List.eq_nil_of_length_eq_zero hs.len
    subst e
    exact ⟨v, w, run_append_owned_none (P := Try.prog) w B 41 41 58 i 3 Try.underlying41 hi v _ _ hown, by rw [List.append_nil]; exact hown, Keeps.refl _ _, .inl rfl⟩
  | some a =>
    have hcells : ∀ j u, (rcells ns)[j]? = some u → w.cell? (a.add j) = some u := by
      intro j u hu
      have hj : j < (rcells ns).length := (List.getElem?_eq_some_iff.1 hu).1
      rw [rcells_length] at hj
      obtain ⟨k, r, rfl, hr⟩ : ∃ k r, j = k * 3 + r ∧ r < 3 := ⟨j / 3, j % 3, by omega, by omega⟩
      have hk : k < ns.length := by omega
      obtain ⟨b, off, e, _, hc⟩ := hs.at_ (by omega)
      cases e
      have e2 : (⟨b, off, none⟩ : Addr).add (k * 3 + r) = ⟨b, off + (k * 3 + r), none⟩ := by unfold Addr.add; split <;> simp_all
      rw [e2, ← hu, rcells_get ns k ns[k] (List.getElem?_eq_getElem hk) r hr]
      obtain ⟨c0, c1, c2⟩ := hc k ns[k] (List.getElem?_eq_getElem hk)
      obtain rfl | rfl | rfl : r = 0 ∨ r = 1 ∨ r = 2 := by omega
      · exact c0
      · rw [← Nat.add_assoc]; exact c1
      · rw [← Nat.add_assoc]; exact c2
    obtain ⟨v', w', hr, ho, hg, -, hat⟩ := run_append_own_at (P := Try.prog) w B 41 41 58 i (.agg #[.int .i64 0, .int .i64 0, .slice none 0 0]) 3 40 Try.underlying41 hi hz0 hz1 hz2 rfl (by decide) v rs.length (rcells rs) hown a m c (rcells ns) (by rw [rcells_length, hnl]) hcells
      (rcells_flat ns) (by unfold maxLen; omega) (by omega) hB
    refine ⟨v', w', hr, ?_, (Keeps.refl _ w).grown hg (fun k hk _ => hk), hat⟩
    unfold OwnR
    rw [List.length_append, rcells_append, hnl]
    exact ho
theorem wpList_append_recs {ops : Array Oper} {rest : List Oper} {o : Oper} {a : Act} {Q : Exit → Act → World → Prop} {s x : Operand} {w : World} {B : Nat} {v : Value} {rs ns : List RV} {A : Option Addr} {m c : Nat}
    (hown : OwnR w B v rs) (hs : Rws w A m c ns) (hlen : rs.length + m ≤ 1000000) (hB : B ≤ w.heap.size) (hg : o.guard = none) (hty : o.type = 41) (ho : o.op = .call { callee := .builtin .append, args := #[s, x], argTypes := #[41, 41] }) (h1 : a.eval s = v) (h2 : a.eval x = .slice A m c)
    (h : ∀ v' w', OwnR w' B v' (rs ++ ns) → Keeps (fun k => v.ownBlock = some k) w w' → (v'.ownBlock = v.ownBlock ∨ v'.ownBlock = some w.heap.size) → wpList Try.prog ops Q rest (a.put o.dst v') w') : wpList Try.prog ops Q (o :: rest) a w := by
  obtain ⟨v', w', hr, h3, h4, h5⟩ := run_append_recs hown hs hlen hB
  exact wpList_append_run hr hg hty ho h1 h2 (h v' w' h3 h4 h5)
/-- A literal of one record. -/
theorem Rws.one {w : World} {g : Nat} {T : TypeId} (r : RV) (h : Blk w g (rcell r) T) : Rws w (some ⟨g, 0, none⟩) 1 1 [r] :=
  ⟨rfl, Nat.le_refl _, by decide, (fun e => by cases e), fun _ => ⟨g, 0, rfl, h.lt, fun k x hx => by
    cases k with
    | zero =>
      obtain rfl : r = x := by simpa using hx
      exact ⟨h.cellD 0 _ rfl, h.cellD 1 _ rfl, h.cellD 2 _ rfl⟩
    | succ k => simp at hx⟩⟩
/-- The bodies of records, each where P holds. -/
structure Bds (w : World) (P : Nat → Prop) (rs : List RV) : Prop where
  bs : ∀ r ∈ rs, Bs w r.A r.b.length r.c r.b
  p : ∀ r ∈ rs, ∀ b, r.at_ b → P b ∧ b < w.heap.size
theorem Bds.nil (w : World) (P : Nat → Prop) : Bds w P [] := ⟨by simp, by simp⟩
theorem Bds.keeps {w w' : World} {P S : Nat → Prop} {rs : List RV} (h : Bds w P rs) (hk : Keeps S w w') (hS : ∀ b, P b → b < w.heap.size → ¬ S b) : Bds w' P rs :=
  ⟨fun r hr => (h.bs r hr).keeps hk (fun b off h0 _ e hb => by
    obtain ⟨hp, hl⟩ := h.p r hr b ⟨off, h0, e⟩
    exact hS b hp hl hb), fun r hr b hb => ⟨(h.p r hr b hb).1, Nat.lt_of_lt_of_le (h.p r hr b hb).2 hk.size⟩⟩
theorem Bds.later {w w' : World} {P : Nat → Prop} {rs : List RV} (h : Bds w P rs) (hk : Keeps None w w') : Bds w' P rs := h.keeps hk (fun _ _ _ h => h)
theorem Bds.mono {w : World} {P Q : Nat → Prop} {rs : List RV} (h : Bds w P rs) (hQ : ∀ b, P b → b < w.heap.size → Q b) : Bds w Q rs :=
  ⟨h.bs, fun r hr b hb => ⟨hQ b (h.p r hr b hb).1 (h.p r hr b hb).2, (h.p r hr b hb).2⟩⟩
theorem Bds.append {w : World} {P : Nat → Prop} {xs ys : List RV} (h : Bds w P xs) (k : Bds w P ys) : Bds w P (xs ++ ys) :=
  ⟨fun r hr => (List.mem_append.1 hr).elim (h.bs r) (k.bs r), fun r hr => (List.mem_append.1 hr).elim (h.p r) (k.p r)⟩
theorem Bds.one {w : World} {P : Nat → Prop} {r : RV} (h : Bs w r.A r.b.length r.c r.b) (hp : ∀ b, r.at_ b → P b ∧ b < w.heap.size) : Bds w P [r] :=
  ⟨fun x hx => by obtain rfl := List.mem_singleton.1 hx; exact h, fun x hx => by obtain rfl := List.mem_singleton.1 hx; exact hp⟩
theorem Bds.of {w : World} {P : Nat → Prop} {rs : List RV} (h : Bds w P rs) : ∀ r, r ∈ rs → Bds w P [r] := fun r hr => Bds.one (h.bs r hr) (h.p r hr)

/-! ### The journal -/
structure JS where
  l : List Rec
  epoch : Nat
  cur : Int
  used : Nat
  torn : Bool
  err : Int
def jcells (q : Nat) (lv : Value) (j : JS) : List Value := [.pointer (some ⟨q, 0, none⟩), .int .i64 0, .int .i64 2, lv, .int .i64 (j.epoch : Int), .int .i64 j.cur, .int .i64 (j.used : Int), .bool j.torn, .int .i64 j.err]
/-- How it lies: the flash, the journal's block, its row of records. -/
structure JX where
  L : FL
  jb : Nat
  lv : Value
  rs : List RV
def JX.S (X : JX) (k : Nat) : Prop := X.L.O k ∨ k = X.jb ∨ X.lv.ownBlock = some k ∨ ∃ r ∈ X.rs, r.at_ k
structure JAt (w : World) (B q : Nat) (X : JX) (s : FS) (j : JS) : Prop where
  f : FAt w B X.L s
  hq : X.L.bf = q
  c : Blk w X.jb (jcells q X.lv j) 108
  l : OwnR w B X.lv X.rs
  bd : Bds w (fun b => B ≤ b ∧ ¬ X.L.O b ∧ b ≠ X.jb ∧ ¬ X.lv.ownBlock = some b) X.rs
  recs : X.rs.map RV.r = j.l
  jo : ¬ X.L.O X.jb
  jB : B ≤ X.jb
  lo : ∀ b, X.lv.ownBlock = some b → ¬ X.L.O b ∧ b ≠ X.jb
theorem JAt.keeps {w w' : World} {B q : Nat} {X : JX} {s : FS} {j : JS} {S : Nat → Prop} (h : JAt w B q X s j) (hk : Keeps S w w') (hS : ∀ k, X.S k → ¬ S k) : JAt w' B q X s j :=
  ⟨h.f.keeps hk (fun k hO => hS k (.inl hO)), h.hq, hk.blk h.c (hS _ (.inr (.inl rfl))), h.l.keeps hk (fun b hb => hS b (.inr (.inr (.inl hb)))),
    ⟨fun r hr => (h.bd.bs r hr).keeps hk (fun b off h0 _ e hb => hS b (.inr (.inr (.inr ⟨r, hr, off, h0, e⟩))) hb), fun r hr b hb => ⟨(h.bd.p r hr b hb).1, Nat.lt_of_lt_of_le (h.bd.p r hr b hb).2 hk.size⟩⟩, h.recs, h.jo, h.jB, h.lo⟩
theorem JAt.later {w w' : World} {B q : Nat} {X : JX} {s : FS} {j : JS} (h : JAt w B q X s j) (hk : Keeps None w w') : JAt w' B q X s j := h.keeps hk (fun _ _ h => h)
theorem JAt.lt {w : World} {B q : Nat} {X : JX} {s : FS} {j : JS} (h : JAt w B q X s j) : ∀ k, X.S k → k < w.heap.size := fun k hk => by
  rcases hk with hk | rfl | hk | ⟨r, hr, hb⟩
  · exact h.f.lt k hk
  · exact h.c.lt
  · exact (h.l.block hk).2
  · exact (h.bd.p r hr k hb).2
theorem JAt.low {w : World} {B q : Nat} {X : JX} {s : FS} {j : JS} (h : JAt w B q X s j) : ∀ k, X.S k → B ≤ k := fun k hk => by
  rcases hk with hk | rfl | hk | ⟨r, hr, hb⟩
  · exact h.f.low k hk
  · exact h.jB
  · exact (h.l.block hk).1
  · exact (h.bd.p r hr k hb).1.1
/-- What a call on a journal leaves. -/
structure JTurn (w w' : World) (B q : Nat) (X X' : JX) (s' : FS) (j' : JS) : Prop where
  at_ : JAt w' B q X' s' j'
  keeps : Keeps X.S w w'
  o : ∀ k, X'.S k → X.S k ∨ w.heap.size ≤ k
  jb : X'.jb = X.jb
/-- The flash alone went on. -/
theorem JAt.turn {w w' : World} {B q : Nat} {X : JX} {s s' : FS} {j : JS} {L' : FL} (h : JAt w B q X s j) (t : Turn w w' B X.L L' s') : JTurn w w' B q X { X with L := L' } s' j := by
  have out : ∀ k, k < w.heap.size → ¬ X.L.O k → ¬ L'.O k := fun k hk hn h' => (t.o k h').elim hn (fun h2 => by omega)
  refine ⟨⟨t.at_, t.bf.trans h.hq, t.keeps.blk h.c h.jo, h.l.keeps t.keeps (fun b hb => (h.lo b hb).1), ⟨fun r hr => (h.bd.bs r hr).keeps t.keeps (fun b off h0 _ e hb => (h.bd.p r hr b ⟨off, h0, e⟩).1.2.1 hb), fun r hr b hb => ?_⟩, h.recs, out _ h.c.lt h.jo, h.jB, fun b hb => ⟨out b (h.l.block hb).2 (h.lo b hb).1, (h.lo b hb).2⟩⟩, t.keeps.mono (fun k _ hk => .inl hk), fun k hk => ?_, rfl⟩
  · obtain ⟨⟨p1, p2, p3, p4⟩, p5⟩ := h.bd.p r hr b hb
    exact ⟨⟨p1, out b p5 p2, p3, p4⟩, Nat.lt_of_lt_of_le p5 t.keeps.size⟩
  · rcases hk with hk | hk
    · exact (t.o k hk).imp .inl id
    · exact .inl (.inr hk)
theorem JTurn.self {w : World} {B q : Nat} {X : JX} {s : FS} {j : JS} (h : JAt w B q X s j) : JTurn w w B q X X s j := ⟨h, Keeps.refl _ _, fun _ h => .inl h, rfl⟩
theorem JTurn.still {w w1 : World} {B q : Nat} {X : JX} {s : FS} {j : JS} (h : JAt w B q X s j) (k : Keeps None w w1) : JTurn w w1 B q X X s j := ⟨h.later k, k.mono (fun _ _ h => h.elim), fun _ h => .inl h, rfl⟩
theorem JTurn.from {w w1 w' : World} {B q : Nat} {X X' : JX} {s' : FS} {j' : JS} (k : Keeps None w w1) (t : JTurn w1 w' B q X X' s' j') : JTurn w w' B q X X' s' j' :=
  ⟨t.at_, k.trans t.keeps (fun _ h => h.elim) (fun _ _ h => h), fun x hx => (t.o x hx).imp id (fun h => Nat.le_trans k.size h), t.jb⟩
theorem JTurn.later {w w1 w' : World} {B q : Nat} {X X' : JX} {s' : FS} {j' : JS} (t : JTurn w w1 B q X X' s' j') (k : Keeps None w1 w') : JTurn w w' B q X X' s' j' :=
  ⟨t.at_.later k, t.keeps.trans k (fun _ h => h) (fun _ _ h => h.elim), t.o, t.jb⟩
theorem JTurn.trans {w w1 w' : World} {B q : Nat} {X X1 X' : JX} {s1 s' : FS} {j1 j' : JS} (t : JTurn w w1 B q X X1 s1 j1) (u : JTurn w1 w' B q X1 X' s' j') : JTurn w w' B q X X' s' j' :=
  ⟨u.at_, t.keeps.trans u.keeps (fun _ h => h) (fun k hk h => (t.o k h).elim id (fun h2 => by omega)), fun x hx => (u.o x hx).elim (fun h => t.o x h) (fun h => .inr (Nat.le_trans t.keeps.size h)), u.jb.trans t.jb⟩
/-- As JTurn, where the flash stays as it was. -/
structure JStay (w w' : World) (B q : Nat) (X X' : JX) (s' : FS) (j' : JS) : Prop where
  t : JTurn w w' B q X X' s' j'
  l : X'.L = X.L
  k : Keeps (fun b => X.S b ∧ ¬ X.L.O b) w w'
theorem JStay.at_ {w w' : World} {B q : Nat} {X X' : JX} {s' : FS} {j' : JS} (h : JStay w w' B q X X' s' j') : JAt w' B q X' s' j' := h.t.at_
theorem JStay.keeps {w w' : World} {B q : Nat} {X X' : JX} {s' : FS} {j' : JS} (h : JStay w w' B q X X' s' j') : Keeps X.S w w' := h.t.keeps
theorem JStay.o {w w' : World} {B q : Nat} {X X' : JX} {s' : FS} {j' : JS} (h : JStay w w' B q X X' s' j') : ∀ k, X'.S k → X.S k ∨ w.heap.size ≤ k := h.t.o
theorem JStay.jb {w w' : World} {B q : Nat} {X X' : JX} {s' : FS} {j' : JS} (h : JStay w w' B q X X' s' j') : X'.jb = X.jb := h.t.jb
theorem JStay.self {w : World} {B q : Nat} {X : JX} {s : FS} {j : JS} (h : JAt w B q X s j) : JStay w w B q X X s j := ⟨JTurn.self h, rfl, Keeps.refl _ _⟩
theorem JStay.later {w w1 w' : World} {B q : Nat} {X X' : JX} {s' : FS} {j' : JS} (t : JStay w w1 B q X X' s' j') (k : Keeps None w1 w') : JStay w w' B q X X' s' j' :=
  ⟨t.t.later k, t.l, t.k.trans k (fun _ h => h) (fun _ _ h => h.elim)⟩
theorem JStay.from {w w1 w' : World} {B q : Nat} {X X' : JX} {s' : FS} {j' : JS} (k : Keeps None w w1) (t : JStay w1 w' B q X X' s' j') : JStay w w' B q X X' s' j' :=
  ⟨JTurn.from k t.t, t.l, k.trans t.k (fun _ h => h.elim) (fun _ _ h => h)⟩
theorem JStay.trans {w w1 w' : World} {B q : Nat} {X X1 X' : JX} {s1 s' : FS} {j1 j' : JS} (t : JStay w w1 B q X X1 s1 j1) (u : JStay w1 w' B q X1 X' s' j') : JStay w w' B q X X' s' j' :=
  ⟨t.t.trans u.t, u.l.trans t.l, t.k.trans u.k (fun _ h => h) (fun k hk h => ⟨(t.o k h.1).elim id (fun h2 => by omega), by rw [← t.l]; exact h.2⟩)⟩
/-- A cell of the journal's own block is put. -/
theorem JAt.put {w : World} {B q : Nat} {X : JX} {s : FS} {j j' : JS} (h : JAt w B q X s j) (i : Nat) (x : Value) (e : jcells q X.lv j' = (jcells q X.lv j).set i x) (el : j'.l = j.l) : JStay w (w.setCell ⟨X.jb, i, none⟩ x) B q X X s j' := by
  have ks := (Keeps.self X.jb w).put i x
  refine ⟨⟨⟨h.f.keeps ks (fun k hO (e : k = X.jb) => h.jo (e ▸ hO)), h.hq, by rw [e]; exact h.c.set i x, h.l.keeps ks (fun b hb => (h.lo b hb).2), ⟨fun r hr => (h.bd.bs r hr).keeps ks (fun b off h0 _ e => (h.bd.p r hr b ⟨off, h0, e⟩).1.2.2.1), fun r hr b hb => ⟨(h.bd.p r hr b hb).1, Nat.lt_of_lt_of_le (h.bd.p r hr b hb).2 ks.size⟩⟩, by rw [el]; exact h.recs, h.jo, h.jB, h.lo⟩, ks.mono (fun k _ hk => .inr (.inl hk)), fun k hk => .inl hk, rfl⟩, rfl, ks.mono (fun k _ (hk : k = X.jb) => by rw [hk]; exact ⟨.inr (.inl rfl), h.jo⟩)⟩
end Go.Proofs.Ytfldgaiiniknpaa
/- The walks of journal's epoch and read; a record is pushed. -/
namespace Go.Proofs.Ytfldgaiiniknpaa
open Go.RowKit

/-- What a read record has behind it. -/
theorem get_full {xs bl : List Int} {k s n : Int} (h : getL xs = some (k, s, bl, n)) :
    fitsR k s bl.length ∧ n = sizeZ bl.length ∧ 16 ≤ n ∧ n ≤ xs.length ∧ xs.take n.toNat = putL k s bl ∧ n = ((putL k s bl).length : Int) := by
  unfold getL at h
  split at h
  · cases h
  · simp only at h
    split at h
    · cases h
    · rename_i h1 h2
      split at h
      · rename_i h3
        simp only [Option.some.injEq, Prod.mk.injEq] at h
        obtain ⟨e1, e2, e3, e4⟩ := h
        rw [e1, e2, e3, e4] at h3
        have hn0 : n ≠ 0 := by rw [← e4]; exact fun e => h2 (.inl e)
        have hle : n ≤ xs.length := by rw [← e4]; exact Int.not_lt.1 fun e => h2 (.inr e)
        have hsz : n = 16 + ((xs.getD 2 0 + xs.getD 3 0 * 256) + 7) / 8 * 8 ∧ 0 ≤ xs.getD 2 0 + xs.getD 3 0 * 256 := by
          unfold sizeZ at e4
          split at e4
          · omega
          · constructor <;> omega
        have hbl : (bl.length : Int) = xs.getD 2 0 + xs.getD 3 0 * 256 := by
          rw [← e3, List.length_take, List.length_drop]
          omega
        have hl := congrArg List.length h3
        rw [List.length_take] at hl
        have hf : fitsR k s bl.length := by
          by_cases hf : fitsR k s bl.length
          · exact hf
          · have hp : putL k s bl = [] := if_neg hf
            rw [hp] at hl
            simp at hl
            omega
        exact ⟨hf, by rw [hbl]; exact e4.symm, by omega, hle, h3.symm, by omega⟩
      · cases h
/-- The epoch that a sector begins with; 0: it is not good. -/
def epochF (zs : List Int) : Int :=
  match getL zs with
  | some (k, s, b, _) => if k = 1 ∧ b.length = 0 then s else 0
  | none => 0
theorem epochF_bd (zs : List Int) : 0 ≤ epochF zs ∧ epochF zs ≤ 4294967295 := by
  unfold epochF
  cases h : getL zs with
  | none => exact ⟨Int.le_refl _, by decide⟩
  | some r =>
    obtain ⟨k, s, b, n⟩ := r
    obtain ⟨⟨-, -, h3, h4, -⟩, -⟩ := get_full h
    simp only
    split <;> omega
set_option maxRecDepth 100000 in
set_option maxHeartbeats 800000 in
theorem jepochof_any (A : Option Addr) (n cap : Nat) (zs : List Int) (w : World) (h : Bs w A n cap zs) (hn : n ≤ 1000000) : Calls Try.prog 63 #[.slice A n cap] w (Pure (.int .i64 (epochF zs)) w) := by
  have H := Lib.hid h
  clear h
  go_enter Try.func63, Try.ntmps63
  go_wp2_with fail
  refine (sget_any A n cap zs w H.out hn).mono ?_
  rintro e w1 ⟨k, s, v, bl, m, ok, rfl, o1, k1, hg⟩
  obtain ⟨A1, c1, rfl, b1, -⟩ := o1.shape
  have l1 := b1.le
  have m1 := b1.max
  have K1 := Lib.hid k1
  clear o1 k1 b1
  cases ok with
  | false =>
    have e0 : Hid (epochF zs = 0) := by
      rcases hg with ⟨h1, -⟩ | ⟨-, h2, -⟩
      · cases h1
      · show epochF zs = 0
        unfold epochF; rw [h2]
    clear hg
    go_wp2
    go_ret
    exact ⟨by rw [e0.out]; rfl, K1.out.alloc _⟩
  | true =>
    have hs : getL zs = some (k, s, bl, m) := by
      rcases hg with ⟨-, h2⟩ | ⟨h1, -⟩
      · exact h2
      · cases h1
    have EE : Hid (epochF zs = if k = 1 ∧ bl.length = 0 then s else 0) := by show _ = _; unfold epochF; rw [hs]
    clear hg hs
    by_cases g1 : k = 1
    · subst g1
      by_cases g2 : bl.length = 0
      · have e1 : decide (0 < (bl.length : Int)) = false := decide_eq_false (by omega)
        have e1n : decide (0 < bl.length) = false := decide_eq_false (by omega)
        have e0 : Hid (epochF zs = s) := EE.out.trans (if_pos ⟨rfl, g2⟩)
        rw [g2]
        clear EE g2 e1 e1n
        go_wp2
        go_ret
        exact ⟨by rw [e0.out]; rfl, K1.out.alloc _⟩
      · have e1 : decide (0 < (bl.length : Int)) = true := decide_eq_true (by omega)
        have e1n : decide (0 < bl.length) = true := decide_eq_true (by omega)
        have e0 : Hid (epochF zs = 0) := EE.out.trans (if_neg (fun h => g2 h.2))
        clear EE g2
        go_wp2
        go_ret
        exact ⟨by rw [e0.out]; rfl, K1.out.alloc _⟩
    · have e1 : (k == 1) = false := by simpa using g1
      have e1n : (k != 1) = true := by simpa using g1
      have e0 : Hid (epochF zs = 0) := EE.out.trans (if_neg (fun h => g1 h.1))
      clear EE
      go_wp2
      go_ret
      exact ⟨by rw [e0.out]; rfl, K1.out.alloc _⟩

/-- The records of a sector from a place on, and where they end. -/
def parseF : Nat → List Int → Nat → List Rec × Nat
  | 0, _, u => ([], u)
  | f + 1, zs, u => match getL (zs.drop u) with
    | some (k, s, b, n) => if k = 1 then ([], u) else (⟨k, s, b⟩ :: (parseF f zs (u + n.toNat)).1, (parseF f zs (u + n.toNat)).2)
    | none => ([], u)
/-- A record is pushed. -/
theorem JAt.push {w0 w w4 : World} {B q : Nat} {X : JX} {s : FS} {j : JS} {v' : Value} {r : RV} (h : JAt w0 B q X s j) (k0 : Keeps None w0 w) (k : Keeps (fun k => X.lv.ownBlock = some k) w w4) (o : OwnR w4 B v' (X.rs ++ [r]))
    (hat : v'.ownBlock = X.lv.ownBlock ∨ ∃ n, v'.ownBlock = some n ∧ w.heap.size ≤ n) (hb : Bs w r.A r.b.length r.c r.b) (hp : ∀ b, r.at_ b → w0.heap.size ≤ b ∧ b < w.heap.size) :
    JStay w0 (w4.setCell ⟨X.jb, 3, none⟩ v') B q X ⟨X.L, X.jb, v', X.rs ++ [r]⟩ s { j with l := j.l ++ [r.r] } := by
  have hw := h.later k0
  have ks := (Keeps.self X.jb w4).put 3 v'
  have nv : ∀ b, X.lv.ownBlock = some b → b < w0.heap.size := fun b hb => (h.l.block hb).2
  have hB0 : B ≤ w0.heap.size := Nat.le_of_lt (Nat.lt_of_le_of_lt h.jB h.c.lt)
  have nd : ∀ b, v'.ownBlock = some b → X.lv.ownBlock = some b ∨ w.heap.size ≤ b := fun b hb => by
    rcases hat with e | ⟨n, e, hn⟩
    · exact .inl (e.symm.trans hb)
    · rw [hb] at e; obtain rfl := Option.some.inj e; exact .inr hn
  have KK : Keeps (fun b => X.lv.ownBlock = some b ∨ b = X.jb) w (w4.setCell ⟨X.jb, 3, none⟩ v') := k.trans ks (fun _ h => .inl h) (fun _ _ h => .inr h)
  have jlv : ¬ X.lv.ownBlock = some X.jb := fun e => (h.lo _ e).2 rfl
  refine ⟨⟨⟨hw.f.keeps KK (fun b hO e => by
      rcases e with e | e
      · exact (h.lo b e).1 hO
      · exact h.jo (e ▸ hO)), h.hq, (k.blk hw.c jlv).set 3 v', o.keeps ks (fun b hb (e : b = X.jb) => by
      rcases nd b hb with h1 | h1
      · exact (h.lo b h1).2 e
      · have := hw.c.lt; omega), ?_, by simp [h.recs], h.jo, h.jB, fun b hb => ?_⟩, ?_, fun x hx => ?_, rfl⟩, rfl, ?_⟩
  · refine Bds.append ⟨fun x hx => (hw.bd.bs x hx).keeps KK (fun b off h0 _ e hb => ?_), fun x hx b hb => ?_⟩ (Bds.one (hb.keeps KK (fun b off h0 _ e hb => ?_)) fun b hb => ?_)
    · have hp := (hw.bd.p x hx b ⟨off, h0, e⟩).1
      rcases hb with hb | hb
      · exact hp.2.2.2 hb
      · exact hp.2.2.1 hb
    · obtain ⟨⟨p1, p2, p3, p4⟩, p5⟩ := h.bd.p x hx b hb
      refine ⟨⟨p1, p2, p3, fun e => ?_⟩, Nat.lt_of_lt_of_le p5 (Nat.le_trans k0.size KK.size)⟩
      rcases nd b e with h1 | h1
      · exact p4 h1
      · have := k0.size; omega
    · have hp := hp b ⟨off, h0, e⟩
      rcases hb with hb | hb
      · have := nv b hb; omega
      · have := h.c.lt; omega
    · have hp := hp b hb
      refine ⟨⟨by omega, fun hO => ?_, fun e => ?_, fun e => ?_⟩, Nat.lt_of_lt_of_le hp.2 KK.size⟩
      · have := h.f.lt b hO; omega
      · have e : b = X.jb := e
        have := h.c.lt; omega
      · rcases nd b e with h1 | h1
        · have := nv b h1; omega
        · omega
  · rcases nd b hb with h1 | h1
    · exact h.lo b h1
    · refine ⟨fun hO => ?_, fun e => ?_⟩
      · have := h.f.lt b hO; have := k0.size; omega
      · have e : b = X.jb := e
        have := h.c.lt; have := k0.size; omega
  · refine k0.trans KK (fun _ h => h.elim) (fun b _ hb => ?_)
    rcases hb with hb | hb
    · exact .inr (.inr (.inl hb))
    · exact .inr (.inl hb)
  · rcases hx with hx | hx | hx | ⟨x', hx', hbx⟩
    · exact .inl (.inl hx)
    · exact .inl (.inr (.inl hx))
    · rcases nd x hx with h1 | h1
      · exact .inl (.inr (.inr (.inl h1)))
      · exact .inr (Nat.le_trans k0.size h1)
    · rcases List.mem_append.1 hx' with h1 | h1
      · exact .inl (.inr (.inr (.inr ⟨x', h1, hbx⟩)))
      · obtain rfl := List.mem_singleton.1 h1
        exact .inr (hp x hbx).1
  · refine k0.trans KK (fun _ h => h.elim) (fun b _ hb => ?_)
    rcases hb with hb | hb
    · exact ⟨.inr (.inr (.inl hb)), (h.lo b hb).1⟩
    · exact ⟨.inr (.inl hb), by rw [hb]; exact h.jo⟩
end Go.Proofs.Ytfldgaiiniknpaa
/- The walk of journal's read. -/
namespace Go.Proofs.Ytfldgaiiniknpaa
open Go.RowKit

set_option maxRecDepth 100000 in
set_option maxHeartbeats 3200000 in
theorem jread_any (B q : Nat) (X : JX) (s : FS) (j : JS) (A : Option Addr) (cap : Nat) (zs : List Int) (w : World) (h : JAt w B q X s j) (hb : Bs w A 1024 cap zs) (hs : ∀ b off, A = some ⟨b, off, none⟩ → ¬ X.S b) (hl : j.l.length ≤ 1000) :
    Calls Try.prog 64 #[.pointer (some ⟨X.jb, 0, none⟩), .slice A 1024 cap] w fun e w' => e = .returned (.tuple #[]) ∧ ∃ X', JStay w w' B q X X' s { j with l := j.l ++ (parseF 64 zs 16).1, used := (parseF 64 zs 16).2, torn := !blankB (zs.drop (parseF 64 zs 16).2) } := by
  have hle := hb.le
  have hmx := hb.max
  have HL := Lib.hid hb.len
  obtain ⟨bl, off, he, hblt, -⟩ := hb.at_ (by decide)
  subst he
  have HB := Lib.hid hb
  have NS := Lib.hid (hs bl off rfl)
  have HLT := Lib.hid hblt
  obtain ⟨L, jb, lv, rs⟩ := X
  dsimp only at h hs ⊢
  have y6 := h.c.cellD 6 _ rfl
  have f6 := h.c.frozen 6
  have P6 := Lib.hid (h.put (j' := { j with used := 16 }) 6 (.int .i64 16) rfl rfl)
  dsimp only at y6 f6 P6
  clear h hb hs hblt
  go_enter Try.func64, Try.ntmps64
  go_wp2
  go_step3
  go_wp2
  go_step3
  go_wp2
  go_loopg [] 64 (fun g wr => ∃ (X1 : JX) (u : Nat) (pre : List Rec), g ≤ 64 ∧ 16 + 16 * (64 - g) ≤ u ∧ u ≤ 1024 ∧ JStay w wr B q ⟨L, jb, lv, rs⟩ X1 s { j with l := j.l ++ pre, used := u } ∧ pre ++ (parseF g zs u).1 = (parseF 64 zs 16).1 ∧ (parseF g zs u).2 = (parseF 64 zs 16).2 ∧ pre.length ≤ 64 - g)
  case atStart => exact ⟨⟨L, jb, lv, rs⟩, 16, [], Nat.le_refl _, Nat.le_refl _, by decide, by simpa using P6.out, rfl, rfl, Nat.zero_le _⟩
  case round =>
    clear P6 y6 f6
    obtain ⟨X1, u, pre, hg1, hg2, hu, ht, hp1, hp2, hpl⟩ := hrel
    obtain ⟨wv, rfl⟩ : ∃ x, x = wr := ⟨_, rfl⟩
    obtain ⟨G, rfl⟩ : ∃ G, gk = G + 1 := ⟨gk - 1, by omega⟩
    obtain ⟨L1, jb1, lv1, rs1⟩ := X1
    obtain rfl : jb1 = jb := ht.jb
    have T1 := Lib.hid ht
    have PAR1 := Lib.hid hp1
    have PAR2 := Lib.hid hp2
    have y6 := ht.at_.c.cellD 6 _ rfl
    try dsimp only at y6
    have BV := Lib.hid (HB.out.keeps ht.keeps (fun b off h0 _ e hS => by cases e; exact NS.out hS))
    have NS1 : Hid (¬ JX.S ⟨L1, jb1, lv1, rs1⟩ bl) := fun hS => by
      rcases ht.o bl hS with h1 | h1
      · exact NS.out h1
      · have := HLT.out; omega
    clear ht hp1 hp2
    by_cases hcu : cap = u
    · obtain rfl : u = 1024 := by omega
      subst hcu
      have SL : Hid (Bs wv (some ⟨bl, off, none⟩) (1024 - 1024) (1024 - 1024) (zs.drop 1024)) := by have := BV.out.dropIf (k := 1024) (by omega); rwa [if_pos rfl] at this
      have SEP : Hid (∀ b o, 0 < 1024 - 1024 → some ⟨bl, off, none⟩ = some (⟨b, o, none⟩ : Addr) → ¬ JX.S ⟨L1, jb1, lv1, rs1⟩ b) := fun b o h => absurd h (by decide)
      have SL : Hid (Bs wv (some ⟨bl, off, none⟩) 0 0 (zs.drop 1024)) := SL
      have SEP : Hid (∀ b o, 0 < 0 → some ⟨bl, off, none⟩ = some (⟨b, o, none⟩ : Addr) → ¬ JX.S ⟨L1, jb1, lv1, rs1⟩ b) := fun b o h => absurd h (by decide)
      -- some ⟨bl, off, none⟩ the pointer behind the slice b[used:]
      have SLK : Hid (∀ w', Keeps (JX.S ⟨L1, jb1, lv1, rs1⟩) wv w' → Bs w' (some ⟨bl, off, none⟩) (0) (0) (zs.drop (1024))) := fun w' hk => SL.out.keeps hk (fun b off h0 _ e => SEP.out b off h0 e)
      clear SEP
      go_wp2_with fail
      refine (sget_any (some ⟨bl, off, none⟩) (0) (0) _ wv SL.out (by omega)).mono ?_
      rintro e w2 ⟨k, s', v, bl2, m, ok, rfl, o2, k2, hg⟩
      obtain ⟨A2, c2, rfl, b2, in2⟩ := o2.shape
      have l2 := b2.le
      have m2 := b2.max
      have B2 := Lib.hid b2
      have I2 := Lib.hid in2
      have K2 := Lib.hid k2
      obtain ⟨n2, HN2⟩ : ∃ x, Hid (bl2.length = x) := ⟨_, rfl⟩
      rw [HN2.out] at l2 B2 ⊢
      clear o2 k2 b2 in2
      by_cases hpush : ok = true ∧ k ≠ 1
      · obtain ⟨rfl, hk1⟩ := hpush
        have hs : getL (zs.drop (1024)) = some (k, s', bl2, m) := by
          rcases hg with ⟨-, h2⟩ | ⟨h1, -⟩
          · exact h2
          · cases h1
        clear hg
        obtain ⟨hfit, -, hm16, hml, -, -⟩ := get_full hs
        rw [List.length_drop, HL.out] at hml
        obtain ⟨mm, rfl⟩ : ∃ mm : Nat, m = mm := ⟨m.toNat, by omega⟩
        exact absurd hm16 (by omega)
      · have PE : Hid (parseF (G + 1) zs (1024) = ([], (1024))) := by
          show _ = _
          conv => lhs; unfold parseF
          rcases hg with ⟨h1, h2⟩ | ⟨h1, h2, -⟩
          · rw [h2]; simp only; rw [if_pos]
            exact Classical.byContradiction fun hk => hpush ⟨h1, hk⟩
          · rw [h2]
        clear hg
        cases ok with
        | false =>
          skip
          -- the sector's records end here: some ⟨bl, off, none⟩ the pointer behind the slice b[used:]
          have J3 := Lib.hid (T1.out.later (K2.out.alloc (.cells #[.int .i64 (k), .int .i64 s', .slice A2 n2 c2] 58)))
          have y6 := J3.out.at_.c.cellD 6 _ rfl
          have y7 := J3.out.at_.c.cellD 7 _ rfl
          have f7 := J3.out.at_.c.frozen 7
          try dsimp only at y6 y7
          have SL2 := Lib.hid (SLK.out _ (K2.out.mono (fun _ _ h => h.elim)))
          have BK := Lib.hid (fun w' h' => isBlank_any (some ⟨bl, off, none⟩) (0) (0) (zs.drop (1024)) w' h')
          obtain ⟨bb, HBB⟩ : ∃ x, Hid (blankB (zs.drop (1024)) = x) := ⟨_, rfl⟩
          rw [HBB.out] at BK
          go_wp2_with fail
          refine (BK.out _ (SL2.out.alloc _)).mono ?_
          rintro e w' ⟨rfl, rfl⟩
          have P7 := Lib.hid (J3.out.at_.put (j' := { j with l := j.l ++ pre, used := (1024), torn := !bb }) 7 (.bool (!bb)) rfl rfl)
          try dsimp only at P7
          go_wp2
          all_goals try rw [Exit.noGoto_normal]
          go_end0
          have hu : (parseF 64 zs 16).2 = (1024) := PAR2.out.symm.trans (by rw [PE.out])
          refine ⟨rfl, ⟨L1, jb1, lv1, rs1⟩, ?_⟩
          rw [hu, ← PAR1.out, PE.out, List.append_nil, HBB.out]
          exact J3.out.trans P7.out
        | true =>
          obtain rfl : k = 1 := Classical.byContradiction fun hk => hpush ⟨rfl, hk⟩
          -- the sector's records end here: some ⟨bl, off, none⟩ the pointer behind the slice b[used:]
          have J3 := Lib.hid (T1.out.later (K2.out.alloc (.cells #[.int .i64 (1), .int .i64 s', .slice A2 n2 c2] 58)))
          have y6 := J3.out.at_.c.cellD 6 _ rfl
          have y7 := J3.out.at_.c.cellD 7 _ rfl
          have f7 := J3.out.at_.c.frozen 7
          try dsimp only at y6 y7
          have SL2 := Lib.hid (SLK.out _ (K2.out.mono (fun _ _ h => h.elim)))
          have BK := Lib.hid (fun w' h' => isBlank_any (some ⟨bl, off, none⟩) (0) (0) (zs.drop (1024)) w' h')
          obtain ⟨bb, HBB⟩ : ∃ x, Hid (blankB (zs.drop (1024)) = x) := ⟨_, rfl⟩
          rw [HBB.out] at BK
          go_wp2_with fail
          refine (BK.out _ (SL2.out.alloc _)).mono ?_
          rintro e w' ⟨rfl, rfl⟩
          have P7 := Lib.hid (J3.out.at_.put (j' := { j with l := j.l ++ pre, used := (1024), torn := !bb }) 7 (.bool (!bb)) rfl rfl)
          try dsimp only at P7
          go_wp2
          all_goals try rw [Exit.noGoto_normal]
          go_end0
          have hu : (parseF 64 zs 16).2 = (1024) := PAR2.out.symm.trans (by rw [PE.out])
          refine ⟨rfl, ⟨L1, jb1, lv1, rs1⟩, ?_⟩
          rw [hu, ← PAR1.out, PE.out, List.append_nil, HBB.out]
          exact J3.out.trans P7.out
    · have SL := Lib.hid (BV.out.drop (k := u) (by omega))
      have SEP : Hid (∀ b o, 0 < 1024 - u → some ⟨bl, off + u, none⟩ = some (⟨b, o, none⟩ : Addr) → ¬ JX.S ⟨L1, jb1, lv1, rs1⟩ b) := fun b o _ e hS => by cases e; exact NS1.out hS
      -- some ⟨bl, off + u, none⟩ the pointer behind the slice b[used:]
      have SLK : Hid (∀ w', Keeps (JX.S ⟨L1, jb1, lv1, rs1⟩) wv w' → Bs w' (some ⟨bl, off + u, none⟩) (1024 - u) (cap - u) (zs.drop (u))) := fun w' hk => SL.out.keeps hk (fun b off h0 _ e => SEP.out b off h0 e)
      clear SEP
      go_wp2_with fail
      refine (sget_any (some ⟨bl, off + u, none⟩) (1024 - u) (cap - u) _ wv SL.out (by omega)).mono ?_
      rintro e w2 ⟨k, s', v, bl2, m, ok, rfl, o2, k2, hg⟩
      obtain ⟨A2, c2, rfl, b2, in2⟩ := o2.shape
      have l2 := b2.le
      have m2 := b2.max
      have B2 := Lib.hid b2
      have I2 := Lib.hid in2
      have K2 := Lib.hid k2
      obtain ⟨n2, HN2⟩ : ∃ x, Hid (bl2.length = x) := ⟨_, rfl⟩
      rw [HN2.out] at l2 B2 ⊢
      clear o2 k2 b2 in2
      by_cases hpush : ok = true ∧ k ≠ 1
      · obtain ⟨rfl, hk1⟩ := hpush
        have hs : getL (zs.drop (u)) = some (k, s', bl2, m) := by
          rcases hg with ⟨-, h2⟩ | ⟨h1, -⟩
          · exact h2
          · cases h1
        clear hg
        obtain ⟨hfit, -, hm16, hml, -, -⟩ := get_full hs
        rw [List.length_drop, HL.out] at hml
        obtain ⟨mm, rfl⟩ : ∃ mm : Nat, m = mm := ⟨m.toNat, by omega⟩
        have PS : Hid (parseF (G + 1) zs (u) = (⟨k, s', bl2⟩ :: (parseF G zs ((u) + mm)).1, (parseF G zs ((u) + mm)).2)) := by
          show _ = _
          conv => lhs; unfold parseF
          rw [hs]; simp only [if_neg hk1, Int.toNat_natCast]
        have e1 : (k == 1) = false := by simpa using hk1
        have e1n : (k != 1) = true := by simpa using hk1
        have hrl : rs1.length ≤ 1100 := by
          have e := congrArg List.length T1.out.at_.recs
          rw [List.length_map] at e
          simp only [List.length_append] at e
          omega
        clear hs hk1 hfit
        go_wp2
        obtain ⟨w3, hw3⟩ : ∃ x, w2.alloc (.cells #[.int .i64 k, .int .i64 s', .slice A2 n2 c2] 58) = x := ⟨_, rfl⟩
        obtain ⟨nb, hnb⟩ : ∃ x, w2.heap.size = x := ⟨_, rfl⟩
        have K3 : Hid (Keeps None wv w3) := by show Keeps _ _ _; rw [← hw3]; exact K2.out.alloc _
        have N3 : Hid (Blk w3 nb [.int .i64 k, .int .i64 s', .slice A2 n2 c2] 58) := by show Blk _ _ _ _; rw [← hw3, ← hnb]; exact Blk.new _ [_, _, _] _
        have B3 : Hid (Bs w3 A2 n2 c2 bl2) := by show Bs _ _ _ _ _; rw [← hw3]; exact B2.out.alloc _
        have W23 : Hid (w2.heap.size ≤ w3.heap.size) := by show _ ≤ _; rw [← hw3]; simp
        have NBL : Hid (wv.heap.size ≤ nb) := by show _ ≤ _; rw [← hnb]; exact K2.out.size
        rw [hw3, hnb]
        clear hw3 hnb
        have J3 := Lib.hid (T1.out.at_.later K3.out)
        obtain ⟨A5, c5, hlv, r5, -⟩ := J3.out.l.shape
        dsimp only at hlv r5
        have l5 := r5.le
        have m5 := r5.max
        obtain ⟨rl, HRL⟩ : ∃ x, Hid (rs1.length = x) := ⟨_, rfl⟩
        rw [HRL.out] at hlv l5 hrl
        have HLV := Lib.hid hlv
        clear hlv r5
        have y3 := J3.out.c.cellD 3 _ rfl
        have z6 := J3.out.c.cellD 6 _ rfl
        try dsimp only at y3 z6
        rw [HLV.out] at y3
        have hjn : Hid (jb1 < wv.heap.size) := T1.out.at_.c.lt
        obtain ⟨mmS, mmh⟩ : ∃ S : World → Prop, ∀ w', S w' ↔ (w'.cell? ⟨jb1, 3, none⟩ = some (.slice A5 rl c5) ∧ w'.cell? ⟨nb, 0, none⟩ = some (.int .i64 k) ∧ w'.cell? ⟨nb, 1, none⟩ = some (.int .i64 s') ∧ w'.cell? ⟨nb, 2, none⟩ = some (.slice A2 n2 c2)) := ⟨_, fun _ => Iff.rfl⟩
        have mmk0 : ∀ x : Memb mmS, x.at_.cell? ⟨jb1, 3, none⟩ = some (.slice A5 rl c5) := fun x => ((mmh _).1 x.is).1
        have mmk1 : ∀ x : Memb mmS, x.at_.cell? ⟨nb, 0, none⟩ = some (.int .i64 k) := fun x => ((mmh _).1 x.is).2.1
        have mmk2 : ∀ x : Memb mmS, x.at_.cell? ⟨nb, 1, none⟩ = some (.int .i64 s') := fun x => ((mmh _).1 x.is).2.2.1
        have mmk3 : ∀ x : Memb mmS, x.at_.cell? ⟨nb, 2, none⟩ = some (.slice A2 n2 c2) := fun x => ((mmh _).1 x.is).2.2.2
        have mmn : Nonempty (Memb mmS) := ⟨⟨(w3).drew, (mmh _).2 ⟨y3, N3.out.cellD 0 _ rfl, N3.out.cellD 1 _ rfl, N3.out.cellD 2 _ rfl⟩⟩⟩
        have mmH := Lib.hid mmh
        clear mmh
        refine wp_region_mix [6, 7, 10] (InS mmS) (by kernel_rfl) (by kernel_rfl) (InS.mk ((mmH.out _).2 ⟨y3, N3.out.cellD 0 _ rfl, N3.out.cellD 1 _ rfl, N3.out.cellD 2 _ rfl⟩)) ?_
        refine wpMix_seg 6 (by kernel_rfl) (by decide) ?_
        simp only [List.take_succ_cons, List.take_zero, List.drop_succ_cons, List.drop_zero]
        repeat (go_big_quiet_step (fail))
        refine wpQuiet_nil ?_
        refine wpMix_eff (by kernel_rfl) ?_
        go_wp2
        first | (refine Exists.elim (⟨_, rfl⟩ : ∃ x, (w3.alloc (.cells #[.int .i64 k, .int .i64 s', .slice A2 n2 c2] 58)).drew = x) fun w4 hw4 => ?_; rw [hw4]) | (refine Exists.elim (⟨_, rfl⟩ : ∃ x, w3.drew.alloc (.cells #[.int .i64 k, .int .i64 s', .slice A2 n2 c2] 58) = x) fun w4 hw4 => ?_; rw [hw4])
        have K4 : Hid (Keeps None w3 w4) := by show Keeps _ _ _; rw [← hw4]; first | exact ((Keeps.refl None w3).alloc _).drew | exact (Keeps.refl None w3).drew.alloc _
        have N4 : Hid (Blk w4 w3.heap.size [.int .i64 k, .int .i64 s', .slice A2 n2 c2] 58) := by show Blk _ _ _ _; rw [← hw4]; first | exact (Blk.new _ [_, _, _] _).drew | exact Blk.new w3.drew [_, _, _] _
        have M4 := Lib.hid (K4.out.blk N3.out (fun h => h))
        have J4 := Lib.hid (J3.out.later K4.out)
        have x3 := J4.out.c.cellD 3 _ rfl
        try dsimp only at x3
        rw [HLV.out] at x3
        clear hw4
        refine MixK.on (InS.mk ((mmH.out _).2 (⟨x3, M4.out.cellD 0 _ rfl, M4.out.cellD 1 _ rfl, M4.out.cellD 2 _ rfl⟩))) ?_
        refine wpMix_eff (by kernel_rfl) ?_
        go_wp2_with (at_builtin; refine Hid.out ?_)
        refine Lib.hid ?_
        refine wpList_append_recs (B := B) (rs := rs1) (ns := [⟨k, s', A2, c2, bl2⟩]) (HLV.out ▸ J4.out.l) (Rws.one _ (by show Blk _ _ [_, _, .slice A2 bl2.length c2] _; rw [HN2.out]; exact N4.out)) (by rw [HRL.out]; omega) (Nat.le_of_lt (Nat.lt_of_le_of_lt J4.out.jB J4.out.c.lt)) rfl rfl rfl rfl rfl ?_
        intro v6 w6 o6 k6 hat6
        rw [← HLV.out] at k6 hat6
        obtain ⟨A6, c6, hv6, r6, -⟩ := o6.shape
        have m6 := r6.max
        have l6 := r6.le
        have n6e : (rs1 ++ [(⟨k, s', A2, c2, bl2⟩ : RV)]).length = rl + 1 := by rw [List.length_append, HRL.out]; rfl
        rw [n6e] at hv6 l6
        subst hv6
        have PU := Lib.hid (T1.out.at_.push (K3.out.trans K4.out (T := None) (fun _ h => h) (fun _ _ h => h)) k6 o6 (hat6.imp id (fun h => ⟨_, h, Nat.le_refl _⟩)) ((show Bs w3 A2 bl2.length c2 bl2 from by rw [HN2.out]; exact B3.out).keeps K4.out (fun _ _ _ _ _ h => h)) (fun b ⟨o, h0, e⟩ => by have h1 := I2.out b o e; have h2 := (K3.out.trans K4.out (T := None) (fun _ h => h) (fun _ _ h => h)).size; have h3 := K3.out.size; have h4 := W23.out; have h5 := K4.out.size; exact ⟨h1.1, by omega⟩))
        have Y6 := Lib.hid (k6.blk J4.out.c (fun e => (J4.out.lo _ e).2 rfl))
        have M6 := Lib.hid (k6.blk M4.out (fun e => by have h1 := (T1.out.at_.l.block e).2; have h2 := NBL.out; omega))
        have x3 := Y6.out.cellD 3 _ rfl
        have g3 := Y6.out.frozen 3
        have g6 := Y6.out.frozen 6
        have x6 := Y6.out.cellD 6 _ rfl
        try dsimp only at x3 x6
        rw [HLV.out] at x3
        clear o6 k6 hat6 r6 n6e
        go_wp2
        refine MixK.on (InS.mk ((mmH.out _).2 (⟨x3, M6.out.cellD 0 _ rfl, M6.out.cellD 1 _ rfl, M6.out.cellD 2 _ rfl⟩))) ?_
        refine wpMix_seg 2 (by kernel_rfl) (by decide) ?_
        simp only [List.take_succ_cons, List.take_zero, List.drop_succ_cons, List.drop_zero]
        repeat (go_big_quiet_step (fail))
        refine wpQuiet_nil ?_
        refine wpMix_eff (by kernel_rfl) ?_
        go_wp2
        refine MixK.last (by kernel_rfl) ?_
        refine wpMix_nil ?_
        clear mmk0 mmk1 mmk2 mmk3 mmn mmH
        have P6 := Lib.hid (PU.out.at_.put (j' := { j with l := (j.l ++ pre) ++ [⟨k, s', bl2⟩], used := (u) + mm }) 6 (.int .i64 (((u) + mm : Nat) : Int)) rfl rfl)
        try dsimp only at P6
        have e6 : (((u) + mm : Nat) : Int) = ((u) : Int) + (mm : Int) := by omega
        rw [e6] at P6
        clear e6
        go_wp2
        go_roundg G
        case measure => omega
        case rel => exact ⟨⟨L1, jb1, .slice A6 (rl + 1) c6, rs1 ++ [⟨k, s', A2, c2, bl2⟩]⟩, (u) + mm, pre ++ [⟨k, s', bl2⟩], by omega, by omega, by omega, by rw [← List.append_assoc]; exact T1.out.trans (PU.out.trans P6.out), by rw [← PAR1.out, PS.out]; simp, by rw [← PAR2.out, PS.out], by rw [List.length_append, List.length_singleton]; omega⟩
      · have PE : Hid (parseF (G + 1) zs (u) = ([], (u))) := by
          show _ = _
          conv => lhs; unfold parseF
          rcases hg with ⟨h1, h2⟩ | ⟨h1, h2, -⟩
          · rw [h2]; simp only; rw [if_pos]
            exact Classical.byContradiction fun hk => hpush ⟨h1, hk⟩
          · rw [h2]
        clear hg
        cases ok with
        | false =>
          skip
          -- the sector's records end here: some ⟨bl, off + u, none⟩ the pointer behind the slice b[used:]
          have J3 := Lib.hid (T1.out.later (K2.out.alloc (.cells #[.int .i64 (k), .int .i64 s', .slice A2 n2 c2] 58)))
          have y6 := J3.out.at_.c.cellD 6 _ rfl
          have y7 := J3.out.at_.c.cellD 7 _ rfl
          have f7 := J3.out.at_.c.frozen 7
          try dsimp only at y6 y7
          have SL2 := Lib.hid (SLK.out _ (K2.out.mono (fun _ _ h => h.elim)))
          have BK := Lib.hid (fun w' h' => isBlank_any (some ⟨bl, off + u, none⟩) (1024 - u) (cap - u) (zs.drop (u)) w' h')
          obtain ⟨bb, HBB⟩ : ∃ x, Hid (blankB (zs.drop (u)) = x) := ⟨_, rfl⟩
          rw [HBB.out] at BK
          go_wp2_with fail
          refine (BK.out _ (SL2.out.alloc _)).mono ?_
          rintro e w' ⟨rfl, rfl⟩
          have P7 := Lib.hid (J3.out.at_.put (j' := { j with l := j.l ++ pre, used := (u), torn := !bb }) 7 (.bool (!bb)) rfl rfl)
          try dsimp only at P7
          go_wp2
          all_goals try rw [Exit.noGoto_normal]
          go_end0
          have hu : (parseF 64 zs 16).2 = (u) := PAR2.out.symm.trans (by rw [PE.out])
          refine ⟨rfl, ⟨L1, jb1, lv1, rs1⟩, ?_⟩
          rw [hu, ← PAR1.out, PE.out, List.append_nil, HBB.out]
          exact J3.out.trans P7.out
        | true =>
          obtain rfl : k = 1 := Classical.byContradiction fun hk => hpush ⟨rfl, hk⟩
          -- the sector's records end here: some ⟨bl, off + u, none⟩ the pointer behind the slice b[used:]
          have J3 := Lib.hid (T1.out.later (K2.out.alloc (.cells #[.int .i64 (1), .int .i64 s', .slice A2 n2 c2] 58)))
          have y6 := J3.out.at_.c.cellD 6 _ rfl
          have y7 := J3.out.at_.c.cellD 7 _ rfl
          have f7 := J3.out.at_.c.frozen 7
          try dsimp only at y6 y7
          have SL2 := Lib.hid (SLK.out _ (K2.out.mono (fun _ _ h => h.elim)))
          have BK := Lib.hid (fun w' h' => isBlank_any (some ⟨bl, off + u, none⟩) (1024 - u) (cap - u) (zs.drop (u)) w' h')
          obtain ⟨bb, HBB⟩ : ∃ x, Hid (blankB (zs.drop (u)) = x) := ⟨_, rfl⟩
          rw [HBB.out] at BK
          go_wp2_with fail
          refine (BK.out _ (SL2.out.alloc _)).mono ?_
          rintro e w' ⟨rfl, rfl⟩
          have P7 := Lib.hid (J3.out.at_.put (j' := { j with l := j.l ++ pre, used := (u), torn := !bb }) 7 (.bool (!bb)) rfl rfl)
          try dsimp only at P7
          go_wp2
          all_goals try rw [Exit.noGoto_normal]
          go_end0
          have hu : (parseF 64 zs 16).2 = (u) := PAR2.out.symm.trans (by rw [PE.out])
          refine ⟨rfl, ⟨L1, jb1, lv1, rs1⟩, ?_⟩
          rw [hu, ← PAR1.out, PE.out, List.append_nil, HBB.out]
          exact J3.out.trans P7.out
end Go.Proofs.Ytfldgaiiniknpaa
/- The walk of journal's Open. -/
namespace Go.Proofs.Ytfldgaiiniknpaa
open Go.RowKit

def sec (s : FS) (k : Nat) : List Int := (s.b.drop (1024 * k)).take 1024
/-- Which sector counts: its epoch, its number. -/
def selF (s : FS) : Nat → Nat × Int
  | 0 => (0, -1)
  | k + 1 => if ((selF s k).1 : Int) < epochF (sec s k) then ((epochF (sec s k)).toNat, (k : Int)) else selF s k
def jnone (e : Nat) (c : Int) : JS := ⟨[], e, c, 0, false, 0⟩
def openS (s : FS) : JS :=
  if (selF s 2).2 = -1 then jnone (selF s 2).1 (selF s 2).2
  else { jnone (selF s 2).1 (selF s 2).2 with l := (parseF 64 (sec s (selF s 2).2.toNat) 16).1, used := (parseF 64 (sec s (selF s 2).2.toNat) 16).2, torn := !blankB ((sec s (selF s 2).2.toNat).drop (parseF 64 (sec s (selF s 2).2.toNat) 16).2) }
theorem selF_cur (s : FS) : ∀ k, (selF s k).2 = -1 ∨ ∃ i : Nat, i < k ∧ (selF s k).2 = i
  | 0 => .inl rfl
  | k + 1 => by
    unfold selF
    split
    · exact .inr ⟨k, Nat.lt_succ_self _, rfl⟩
    · rcases selF_cur s k with h | ⟨i, hi, h⟩
      · exact .inl h
      · exact .inr ⟨i, by omega, h⟩
theorem sec_len {s : FS} {k : Nat} (h : 1024 * k + 1024 ≤ s.b.length) : (sec s k).length = 1024 := by
  unfold sec; rw [List.length_take, List.length_drop]; omega
theorem gread_sec {s : FS} (hd : s.dark = false) (hn : 2048 ≤ s.b.length) {k : Nat} (hk : k < 2) : s.gread 0 2 ((k : Int) * 1024) 1024 = (sec s k, 0) := by
  have h1 : withinB ((k : Int) * 1024) 1024 (1024 * 2 : Nat) = true := decide_eq_true (by omega)
  have h2 : withinB ((1024 * 0 : Nat) + (k : Int) * 1024) 1024 s.b.length = true := decide_eq_true (by omega)
  unfold FS.gread FS.readF
  rw [if_neg (by rw [hd]; decide), if_pos h1, if_neg (by rw [hd]; decide)]
  have e : (1024 * ((0 : Nat) : Int) + (k : Int) * 1024) = ((1024 * 0 : Nat) + (k : Int) * 1024) := by omega
  rw [e, if_pos h2]
  unfold sec
  congr 2
  congr 1
  omega
set_option maxRecDepth 100000 in
theorem jopen_no (p : Option Addr) (first count : Nat) (hc : count ≤ 1000000) (h2 : count ≠ 2) (w : World) : Calls Try.prog 57 #[.agg #[.pointer p, .int .i64 first, .int .i64 count]] w (Pure (.tuple #[.pointer none, .int .i64 1]) w) := by
  have SZ := Lib.hid (fun w => gsize_any p first count hc w)
  have e1 : ((1024 * count : Nat) : Int) ≠ 2048 := by omega
  obtain ⟨N, hN⟩ : ∃ N, 1024 * count = N := ⟨_, rfl⟩
  rw [hN] at SZ e1
  have e2 : ((N : Int) != 2048) = true := by simpa using e1
  have e3 : ((N : Int) == 2048) = false := by simpa using e1
  have e4 : (N == 2048) = false := by simp; omega
  clear hN
  go_enter Try.func57, Try.ntmps57
  go_wp2_with fail
  refine (SZ.out _).mono ?_
  rintro e w1 ⟨rfl, k1⟩
  go_wp2
  go_ret2
  exact ⟨rfl, ((Keeps.refl None w).alloc _).trans k1 (fun _ h => h) (fun _ _ h => h)⟩
set_option maxRecDepth 100000 in
set_option maxHeartbeats 3200000 in
theorem jopen_yes (B : Nat) (L : FL) (s : FS) (q : Nat) (w : World) (h : FAt w B L s) (hq : L.bf = q) (hd : s.dark = false) (hn : 2 ≤ L.n) :
    Calls Try.prog 57 #[.agg #[.pointer (some ⟨q, 0, none⟩), .int .i64 0, .int .i64 2]] w fun e w' => ∃ X : JX, e = .returned (.tuple #[.pointer (some ⟨X.jb, 0, none⟩), .int .i64 0]) ∧ JAt w' B q X s (openS s) ∧ X.L = L ∧ Keeps None w w' ∧ ∀ k, X.S k → L.O k ∨ w.heap.size ≤ k := by
  have hbl : 2048 ≤ s.b.length := by have := h.bl; have := h.nN; omega
  have SZ := Lib.hid (fun w => gsize_any (some ⟨q, 0, none⟩) 0 2 (by decide) w)
  have RD : Hid (∀ (k : Nat) (w' : World), k < 2 → Keeps None w w' → Calls Try.prog 62 #[.agg #[.pointer (some ⟨q, 0, none⟩), .int .i64 0, .int .i64 2], .int .i64 ((k : Int) * 1024), .int .i64 1024] w' (ReadTold w' (sec s k, 0))) := fun k w' hk hkp => by
    have := gread_any B L s q 0 2 ((k : Int) * 1024) 1024 w' (h.later hkp) hq (by decide)
    rw [gread_sec hd hbl hk] at this
    exact this
  have BL : Hid (∀ k, k < 2 → (sec s k).length = 1024) := fun k hk => sec_len (by omega)
  have HF := Lib.hid h
  have HB : Hid (B ≤ w.heap.size) := by have h1 := h.low L.bf (.inl (.inl rfl)); have h2 := h.lt L.bf (.inl (.inl rfl)); show B ≤ _; omega
  clear h
  go_enter Try.func57, Try.ntmps57
  go_wp2_with fail
  refine (SZ.out _).mono ?_
  rintro e w1 ⟨rfl, k1⟩
  have K1 := Lib.hid (((Keeps.refl None w).alloc (.cells #[.pointer (some ⟨q, 0, none⟩), .int .i64 0, .int .i64 2] 84)).trans k1 (T := None) (fun _ h => h) (fun _ _ h => h))
  have R1 := Lib.hid (k1.blk (Blk.new w [.pointer (some ⟨q, 0, none⟩), .int .i64 0, .int .i64 2] 84) (fun h => h))
  have y0 := R1.out.cellD 0 _ rfl
  have y1 := R1.out.cellD 1 _ rfl
  have y2 := R1.out.cellD 2 _ rfl
  clear k1
  go_wp2
  obtain ⟨w2, hw2⟩ : ∃ x, w1.alloc (.cells #[.pointer (some ⟨q, 0, none⟩), .int .i64 0, .int .i64 2, .slice none 0 0, .int .i64 0, .int .i64 (-1), .int .i64 0, .bool false, .int .i64 0] 108) = x := ⟨_, rfl⟩
  obtain ⟨jb, hjb⟩ : ∃ x, w1.heap.size = x := ⟨_, rfl⟩
  have K2 : Hid (Keeps None w w2) := by show Keeps _ _ _; rw [← hw2]; exact K1.out.alloc _
  have R2 : Hid (Blk w2 w.heap.size [.pointer (some ⟨q, 0, none⟩), .int .i64 0, .int .i64 2] 84) := by show Blk _ _ _ _; rw [← hw2]; exact R1.out.alloc _
  have JBG : Hid (w.heap.size < jb) := by show _ < _; rw [← hjb]; exact R1.out.lt
  have J2 : Hid (JAt w2 B q ⟨L, jb, .slice none 0 0, []⟩ s (jnone 0 (-1))) := by
    refine ⟨HF.out.later K2.out, hq, ?_, OwnR.nil _ _, Bds.nil _ _, rfl, fun hO => ?_, Nat.le_trans HB.out (Nat.le_of_lt JBG.out), fun b e => by cases e⟩
    · show Blk w2 jb _ _
      rw [← hw2, ← hjb]
      exact Blk.new _ [_, _, _, _, _, _, _, _, _] _
    · have h1 := HF.out.lt jb hO; have h2 := JBG.out; omega
  rw [hw2, hjb]
  clear hw2 hjb K1 R1 y0 y1 y2
  go_loopw [5, 16] (fun nv iv wr => ∃ k : Nat, k ≤ 2 ∧ iv = .int .i64 (k : Int) ∧ JAt wr B q ⟨L, jb, .slice none 0 0, []⟩ s (jnone (selF s k).1 (selF s k).2) ∧ Keeps None w wr ∧ Blk wr w.heap.size [.pointer (some ⟨q, 0, none⟩), .int .i64 0, .int .i64 2] 84 ∧
    (((selF s k).2 = -1 ∧ nv = .slice none 0 0) ∨ ∃ (A : Option Addr) (cap i : Nat), (selF s k).2 = (i : Int) ∧ nv = .slice A 1024 cap ∧ Bs wr A 1024 cap (sec s i) ∧ ∀ b off, A = some ⟨b, off, none⟩ → ¬ JX.S ⟨L, jb, .slice none 0 0, []⟩ b)) (fun _ iv _ => 2 - (intOf iv).toNat)
  case atStart => exact ⟨0, by decide, rfl, J2.out, K2.out, R2.out, .inl ⟨rfl, rfl⟩⟩
  case round =>
    clear J2 K2 R2
    obtain ⟨k, hk, rfl, hj, hkp, hr, hnv⟩ := hrel
    obtain ⟨wv, rfl⟩ : ∃ x, x = wr := ⟨_, rfl⟩
    have HJ := Lib.hid hj
    have HK := Lib.hid hkp
    have HR := Lib.hid hr
    have HN := Lib.hid hnv
    clear hj hkp hr hnv
    by_cases hlt : k < 2
    · have x0 := HR.out.cellD 0 _ rfl
      have x1 := HR.out.cellD 1 _ rfl
      have x2 := HR.out.cellD 2 _ rfl
      have RK := Lib.hid (RD.out k wv hlt HK.out)
      have LK := Lib.hid (BL.out k hlt)
      obtain ⟨zs, HZS⟩ : ∃ x, Hid (sec s k = x) := ⟨_, rfl⟩
      have SELS : Hid (selF s (k + 1) = if ((selF s k).1 : Int) < epochF zs then ((epochF zs).toNat, (k : Int)) else selF s k) := by show _ = _; rw [← HZS.out]; rfl
      rw [HZS.out] at RK LK
      go_wp2_with fail
      refine RK.out.mono ?_
      rintro e w3 ⟨v3, rfl, o3, k3⟩
      obtain ⟨A3, c3, rfl, b3, in3⟩ := o3.shape
      rw [LK.out] at b3 ⊢
      have B3 := Lib.hid b3
      have I3 := Lib.hid in3
      have K3 := Lib.hid k3
      have l3 := b3.le
      have m3 := b3.max
      clear o3 k3 b3 in3
      go_wp2_with fail
      refine (jepochof_any A3 1024 c3 zs w3 B3.out (by decide)).mono ?_
      rintro e w4 ⟨rfl, k4⟩
      have K34 := Lib.hid (K3.out.trans k4 (T := None) (fun _ h => h) (fun _ _ h => h))
      have K4 := Lib.hid (HK.out.trans K34.out (T := None) (fun _ h => h) (fun _ _ h => h))
      have B4 := Lib.hid (B3.out.keeps k4 (fun _ _ _ _ _ h => h))
      have J4 := Lib.hid (HJ.out.later K34.out)
      have R4 := Lib.hid (K34.out.blk HR.out (fun h => h))
      have NS3 : Hid (∀ b off, A3 = some ⟨b, off, none⟩ → ¬ JX.S ⟨L, jb, .slice none 0 0, []⟩ b) := fun b off e hS => by
        have h1 := (I3.out b off e).1
        have h2 := HJ.out.lt b hS
        omega
      obtain ⟨E, hE⟩ : ∃ E : Nat, epochF zs = E := ⟨(epochF zs).toNat, by have := epochF_bd zs; omega⟩
      rw [hE] at SELS ⊢
      rw [Int.toNat_natCast] at SELS
      have hE4 : E ≤ 4294967295 := by have := (epochF_bd zs).2; omega
      clear k4 hE K3 B3 I3
      obtain ⟨⟨e0, c0⟩, HSE⟩ : ∃ x, Hid (selF s k = x) := ⟨_, rfl⟩
      rw [HSE.out] at J4 SELS HN
      dsimp only at J4 SELS HN
      have y4 := J4.out.c.cellD 4 _ rfl
      have y5 := J4.out.c.cellD 5 _ rfl
      have f4 := J4.out.c.frozen 4
      have f5 := J4.out.c.frozen 5
      dsimp only [jnone] at y4 y5 f4 f5
      by_cases hgt : e0 < E
      · have d1 : decide ((e0 : Int) < (E : Int)) = true := decide_eq_true (by omega)
        have d1n : decide (e0 < E) = true := decide_eq_true hgt
        have S2 : Hid (selF s (k + 1) = (E, (k : Int))) := SELS.out.trans (if_pos (by omega))
        have P4 := Lib.hid (J4.out.put (j' := jnone E c0) 4 (.int .i64 (E : Int)) rfl rfl)
        have P5 := Lib.hid (P4.out.at_.put (j' := jnone E k) 5 (.int .i64 (k : Int)) rfl rfl)
        have JJ : Hid (w.heap.size ≤ jb) := Nat.le_of_lt JBG.out
        go_wp2
        go_roundw
        case rel =>
          refine ⟨k + 1, hlt, by go_num, by rw [S2.out]; exact P5.out.at_, (K4.out.setCell _ _ (fun h => absurd h (Nat.not_lt.2 JJ.out))).setCell _ _ (fun h => absurd h (Nat.not_lt.2 JJ.out)), (R4.out.setOther _ _ (Nat.ne_of_lt JBG.out)).setOther _ _ (Nat.ne_of_lt JBG.out), .inr ⟨A3, c3, k, by rw [S2.out], rfl, ?_, NS3.out⟩⟩
          rw [HZS.out]
          exact B4.out.keeps (S := fun b => b = jb) (((Keeps.self jb w4).put 4 _).put 5 _) (fun b off h0 _ e hb => NS3.out b off e (.inr (.inl hb)))
        case measure => simp [intOf]; omega
      · have d1 : decide ((e0 : Int) < (E : Int)) = false := decide_eq_false (by omega)
        have d1n : decide (e0 < E) = false := decide_eq_false hgt
        have S2 : Hid (selF s (k + 1) = (e0, c0)) := SELS.out.trans (if_neg (by omega))
        go_wp2
        go_roundw
        case rel =>
          refine ⟨k + 1, hlt, by go_num, by rw [S2.out]; exact J4.out, K4.out, R4.out, ?_⟩
          rw [S2.out]
          rcases HN.out with h1 | ⟨A, cap, i, h1, h2, h3, h4⟩
          · exact .inl h1
          · exact .inr ⟨A, cap, i, h1, h2, h3.keeps K34.out (fun _ _ _ _ _ h => h), h4⟩
        case measure => simp [intOf]; omega
    · obtain rfl : k = 2 := by omega
      have OS : Hid (openS s = if (selF s 2).2 = -1 then jnone (selF s 2).1 (selF s 2).2 else { jnone (selF s 2).1 (selF s 2).2 with l := (parseF 64 (sec s (selF s 2).2.toNat) 16).1, used := (parseF 64 (sec s (selF s 2).2.toNat) 16).2, torn := !blankB ((sec s (selF s 2).2.toNat).drop (parseF 64 (sec s (selF s 2).2.toNat) 16).2) }) := rfl
      obtain ⟨⟨e0, c0⟩, HSE⟩ : ∃ x, Hid (selF s 2 = x) := ⟨_, rfl⟩
      rw [HSE.out] at HJ OS HN
      dsimp only at HJ OS HN
      have y5 := HJ.out.c.cellD 5 _ rfl
      dsimp only [jnone] at y5
      have SUB : Hid (∀ (X : JX), X.jb = jb → (∀ k, X.S k → JX.S ⟨L, jb, .slice none 0 0, []⟩ k ∨ wv.heap.size ≤ k) → ∀ k, X.S k → L.O k ∨ w.heap.size ≤ k) := fun X _ ho k hk => by
        rcases ho k hk with h1 | h1
        · rcases h1 with h1 | h1 | h1 | ⟨r, hr, -⟩
          · exact .inl h1
          · have h1 : k = jb := h1
            exact .inr (by have := JBG.out; omega)
          · cases h1
          · cases hr
        · exact .inr (Nat.le_trans HK.out.size h1)
      rcases HN.out with ⟨h1, rfl⟩ | ⟨A, cap, i, h1, rfl, hbs, hns⟩
      · subst h1
        rw [if_pos rfl] at OS
        clear HN HSE
        go_wp2
        go_ret2
        exact ⟨⟨L, jb, .slice none 0 0, []⟩, rfl, by rw [OS.out]; exact HJ.out, rfl, HK.out, SUB.out _ rfl (fun k h => .inl h)⟩
      · subst h1
        have e1 : ((i : Int) == -1) = false := by simp
        have e1n : ((i : Int) != -1) = true := by simp
        rw [if_neg (by omega), Int.toNat_natCast] at OS
        have hle := hbs.le
        have hmx := hbs.max
        have HBS := Lib.hid hbs
        have HNS := Lib.hid hns
        clear HN HSE hbs hns
        go_wp2_with fail
        refine (jread_any B q ⟨L, jb, .slice none 0 0, []⟩ s (jnone e0 i) A cap (sec s i) wv HJ.out HBS.out HNS.out (Nat.zero_le _)).mono ?_
        rintro e w5 ⟨rfl, X', t5⟩
        have T5 := Lib.hid t5
        have XJ : Hid (X'.jb = jb) := t5.jb
        have K5 : Hid (Keeps None w w5) := HK.out.trans t5.k (T := None) (fun _ h => h) (fun k hk hS => by
          obtain ⟨hS, hO⟩ := hS
          rcases hS with h1 | h1 | h1 | ⟨r, hr, -⟩
          · exact absurd h1 hO
          · have h1 : k = jb := h1
            have := JBG.out; omega
          · cases h1
          · cases hr)
        clear t5
        go_wp2
        go_ret2
        exact ⟨X', by rw [XJ.out]; rfl, by rw [OS.out]; exact T5.out.at_, T5.out.l, K5.out, SUB.out _ XJ.out T5.out.o⟩
end Go.Proofs.Ytfldgaiiniknpaa
