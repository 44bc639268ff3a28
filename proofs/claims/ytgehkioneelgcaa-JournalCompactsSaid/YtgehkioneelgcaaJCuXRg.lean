
/- The walks of package region, over a flash in memory. -/
import Derived.Test.YtgehkioneelgcaaJCuXFlLaw
import Derived.Laws.ResultCell
namespace Go.Proofs.Ytgehkioneelgcaa
open Go.RowKit

/-- A value, and nothing that was there has changed. -/
def Pure (v : Value) (w : World) (e : Ending) (w' : World) : Prop := e = .returned v ∧ Keeps None w w'
def mayF (d : Bool) (a m size : Int) : Int := if d = true then 5 else if withinB a m size = true then 0 else 2
def FS.gread (s : FS) (first count : Nat) (a m : Int) : List Int × Int := if s.dark = true then ([], 5) else if withinB a m (1024 * count : Nat) = true then s.readF (1024 * first + a) m else ([], 2)
def FS.gprog (s : FS) (first count : Nat) (a : Int) (zs : List Int) : FS × Int := if s.dark = true then (s, 5) else if withinB a zs.length (1024 * count : Nat) = true then s.progF (1024 * first + a) zs else (s, 2)
def sectF (d : Bool) (k : Int) (count : Nat) : Int := if d = true then 5 else if k < 0 ∨ (count : Int) ≤ k then 2 else 0
def FS.gerase (s : FS) (first count : Nat) (k : Int) : FS × Int := if s.dark = true then (s, 5) else if k < 0 ∨ (count : Int) ≤ k then (s, 2) else s.eraseF (first + k)
def FS.gblank (s : FS) (first count : Nat) (k : Int) : Bool × Int := if s.dark = true then (false, 5) else if k < 0 ∨ (count : Int) ≤ k then (false, 2) else (blankB ((s.b.drop (1024 * (first + k.toNat))).take 1024), 0)
def someB (first count n : Int) : Bool := decide (1 ≤ count ∧ 0 ≤ first ∧ first ≤ n ∧ count ≤ n - first)
/-- A region as a value. -/
def rgv (q : Nat) (first count : Int) : Value := .agg #[.pointer (some ⟨q, 0, none⟩), .int .i64 first, .int .i64 count]
def rg0 : Value := .agg #[.pointer none, .int .i64 0, .int .i64 0]

theorem Turn.from {w w1 w' : World} {B : Nat} {L L' : FL} {s' : FS} (k : Keeps None w w1) (t : Turn w1 w' B L L' s') : Turn w w' B L L' s' :=
  ⟨t.at_, k.trans t.keeps (fun _ h => h.elim) (fun _ _ h => h), t.bf, t.n, fun b hb => by
    rcases t.o b hb with h | h
    · exact .inl h
    · exact .inr (Nat.le_trans k.size h)⟩
theorem Turn.still {w w1 : World} {B : Nat} {L : FL} {s : FS} (h : FAt w B L s) (k : Keeps None w w1) : Turn w w1 B L L s := ⟨h.later k, k.mono (fun _ _ h => h.elim), rfl, rfl, fun _ h => .inl h⟩

set_option maxRecDepth 100000 in
theorem gsome_any (first count n : Int) (hn : 0 ≤ n ∧ n ≤ 1000000) (w : World) : Calls Try.prog 35 #[.int .i64 first, .int .i64 count, .int .i64 n] w (Same (.bool (someB first count n)) w) := by
  have WI : Hid (someB first count n = (decide (1 ≤ count) && decide (0 ≤ first) && decide (first ≤ n) && decide (count ≤ n - first))) := by
    show someB first count n = _
    unfold someB
    by_cases q1 : 1 ≤ count <;> by_cases q2 : 0 ≤ first <;> by_cases q3 : first ≤ n <;> by_cases q4 : count ≤ n - first <;> simp [q1, q2, q3, q4]
  by_cases q1 : 1 ≤ count
  · have e1 : decide (1 ≤ count) = true := decide_eq_true q1
    by_cases q2 : 0 ≤ first
    · have e2 : decide (0 ≤ first) = true := decide_eq_true q2
      by_cases q3 : first ≤ n
      · have e3 : decide (first ≤ n) = true := decide_eq_true q3
        rw [e1, e2, e3] at WI
        have hn1 : -9223372036854775808 ≤ n - first := by omega
        have hn2 : n - first ≤ 9223372036854775807 := by omega
        go_enter Try.func35, Try.ntmps35
        go_wp2
        go_ret
        exact ⟨ret_bool (by rw [WI.out]; simp), rfl⟩
      · have e3 : decide (first ≤ n) = false := decide_eq_false q3
        rw [e1, e2, e3] at WI
        go_enter Try.func35, Try.ntmps35
        go_wp2
        go_ret
        exact ⟨ret_bool (by rw [WI.out]; simp), rfl⟩
    · have e2 : decide (0 ≤ first) = false := decide_eq_false q2
      rw [e1, e2] at WI
      go_enter Try.func35, Try.ntmps35
      go_wp2
      go_ret
      exact ⟨ret_bool (by rw [WI.out]; simp), rfl⟩
  · have e1 : decide (1 ≤ count) = false := decide_eq_false q1
    rw [e1] at WI
    go_enter Try.func35, Try.ntmps35
    go_wp2
    go_ret
    exact ⟨ret_bool (by rw [WI.out]; simp), rfl⟩
set_option maxRecDepth 100000 in
theorem gsize_any (p : Option Addr) (first : Int) (count : Nat) (hc : count ≤ 1000000) (w : World) : Calls Try.prog 37 #[.agg #[.pointer p, .int .i64 first, .int .i64 count]] w (Pure (.int .i64 (1024 * count : Nat)) w) := by
  have k0 : Keeps None w (w.alloc (.cells #[.pointer p, .int .i64 first, .int .i64 count] 49)) := (Keeps.refl None w).alloc _
  have hm : ((count : Int) * 1024) = ((1024 * count : Nat) : Int) := by omega
  go_enter Try.func37, Try.ntmps37
  go_wp2
  go_ret
  exact ⟨ret_int (by omega), k0⟩
theorem gbase_any (p : Option Addr) (first : Nat) (count : Int) (hc : first ≤ 1000000) (w : World) : Calls Try.prog 49 #[.agg #[.pointer p, .int .i64 first, .int .i64 count]] w (Pure (.int .i64 (1024 * first : Nat)) w) := by
  have k0 : Keeps None w (w.alloc (.cells #[.pointer p, .int .i64 first, .int .i64 count] 49)) := (Keeps.refl None w).alloc _
  go_enter Try.func49, Try.ntmps49
  go_wp2
  go_ret
  exact ⟨ret_int (by omega), k0⟩

set_option maxRecDepth 100000 in
theorem gmay_any (B : Nat) (L : FL) (s : FS) (q first count : Nat) (a m : Int) (w : World) (h : FAt w B L s) (hq : L.bf = q) (hc : count ≤ 1000000) : Calls Try.prog 47 #[.agg #[.pointer (some ⟨q, 0, none⟩), .int .i64 first, .int .i64 count], .int .i64 a, .int .i64 m] w (Pure (.int .i64 (mayF s.dark a m (1024 * count : Nat))) w) := by
  have OFF := Lib.hid (fun w' (hh : FAt w' B L s) => foff_any B L s w' hh)
  simp only [FL.p, hq] at OFF
  obtain ⟨sz, hsz⟩ : ∃ sz : Nat, 1024 * count = sz := ⟨_, rfl⟩
  have szb : sz ≤ 1024000000 := by omega
  have GS := Lib.hid (fun p f w => gsize_any p f count hc w)
  rw [hsz] at GS ⊢
  clear hsz
  have k0 : Keeps None w (w.alloc (.cells #[.pointer (some ⟨q, 0, none⟩), .int .i64 first, .int .i64 count] 49)) := (Keeps.refl None w).alloc _
  have bx : Blk (w.alloc (.cells #[.pointer (some ⟨q, 0, none⟩), .int .i64 first, .int .i64 count] 49)) w.heap.size [.pointer (some ⟨q, 0, none⟩), .int .i64 first, .int .i64 count] 49 := Blk.new w [.pointer (some ⟨q, 0, none⟩), .int .i64 first, .int .i64 count] 49
  have K0 := Lib.hid k0
  have BX := Lib.hid bx
  clear k0 bx
  have H0 := Lib.hid (h.later K0.out)
  clear h
  cases hd : s.dark with
  | true =>
    rw [hd] at OFF
    have WI : Hid (mayF true a m sz = 5) := rfl
    clear hd
    go_enter Try.func47, Try.ntmps47
    go_wp2_with fail
    refine (OFF.out _ H0.out).mono ?_
    rintro e w' ⟨rfl, rfl⟩
    go_wp2
    go_ret
    exact ⟨ret_int WI.out.symm, K0.out⟩
  | false =>
    rw [hd] at OFF
    have WI0 : Hid (mayF false a m sz = if withinB a m sz = true then 0 else 2) := if_neg (by decide)
    clear hd
    by_cases q1 : a < 0
    · have d1 : decide (a < 0) = true := decide_eq_true q1
      have WI : Hid (mayF false a m sz = 2) := by show _ = _; rw [WI0.out, if_neg]; unfold withinB; rw [decide_eq_false (by omega)]; decide
      clear WI0
      go_enter Try.func47, Try.ntmps47
      go_wp2_with fail
      refine (OFF.out _ H0.out).mono ?_
      rintro e w' ⟨rfl, rfl⟩
      go_wp2
      go_ret
      exact ⟨ret_int WI.out.symm, K0.out⟩
    have d1 : decide (a < 0) = false := decide_eq_false q1
    by_cases q2 : m < 0
    · have d2 : decide (m < 0) = true := decide_eq_true q2
      have WI : Hid (mayF false a m sz = 2) := by show _ = _; rw [WI0.out, if_neg]; unfold withinB; rw [decide_eq_false (by omega)]; decide
      clear WI0
      go_enter Try.func47, Try.ntmps47
      go_wp2_with fail
      refine (OFF.out _ H0.out).mono ?_
      rintro e w' ⟨rfl, rfl⟩
      go_wp2
      go_ret
      exact ⟨ret_int WI.out.symm, K0.out⟩
    have d2 : decide (m < 0) = false := decide_eq_false q2
    by_cases q3 : (sz : Int) < a
    · have d3 : decide ((sz : Int) < a) = true := decide_eq_true q3
      have WI : Hid (mayF false a m sz = 2) := by show _ = _; rw [WI0.out, if_neg]; unfold withinB; rw [decide_eq_false (by omega)]; decide
      clear WI0
      go_enter Try.func47, Try.ntmps47
      go_wp2_with fail
      refine (OFF.out _ H0.out).mono ?_
      rintro e w' ⟨rfl, rfl⟩
      go_wp2_with fail
      refine (GS.out _ _ _).mono ?_
      rintro e w2 ⟨rfl, k2⟩
      have K2 := Lib.hid (K0.out.trans k2 (T := None) (fun _ h => h) (fun _ _ h => h))
      clear k2
      go_wp2
      go_ret
      exact ⟨ret_int WI.out.symm, K2.out⟩
    have d3 : decide ((sz : Int) < a) = false := decide_eq_false q3
    have n1 : -9223372036854775808 ≤ (sz : Int) - a := by omega
    have n2 : (sz : Int) - a ≤ 9223372036854775807 := by omega
    obtain ⟨b4, hb4⟩ : ∃ b, decide ((sz : Int) - a < m) = b := ⟨_, rfl⟩
    have WI : Hid (mayF false a m sz = if b4 = true then 2 else 0) := by
      show _ = _
      rw [WI0.out, ← hb4]
      by_cases q4 : (sz : Int) - a < m
      · rw [if_neg, if_pos (decide_eq_true q4)]; unfold withinB; rw [decide_eq_false (by omega)]; decide
      · rw [if_pos, if_neg]
        · rw [decide_eq_false q4]; decide
        · exact decide_eq_true ⟨by omega, by omega, by omega, by omega⟩
    clear WI0
    go_enter Try.func47, Try.ntmps47
    go_wp2_with fail
    refine (OFF.out _ H0.out).mono ?_
    rintro e w' ⟨rfl, rfl⟩
    go_wp2_with fail
    refine (GS.out _ _ _).mono ?_
    rintro e w2 ⟨rfl, k2⟩
    have K2 := Lib.hid (K0.out.trans k2 (T := None) (fun _ h => h) (fun _ _ h => h))
    have B2 := Lib.hid (k2.blk BX.out (fun h => h))
    have c20 := B2.out.cellD 0 _ rfl
    have c21 := B2.out.cellD 1 _ rfl
    have c22 := B2.out.cellD 2 _ rfl
    clear k2
    go_wp2_with fail
    refine (GS.out _ _ _).mono ?_
    rintro e w3 ⟨rfl, k3⟩
    have K3 := Lib.hid (K2.out.trans k3 (T := None) (fun _ h => h) (fun _ _ h => h))
    have B3 := Lib.hid (k3.blk B2.out (fun h => h))
    have c30 := B3.out.cellD 0 _ rfl
    have c31 := B3.out.cellD 1 _ rfl
    have c32 := B3.out.cellD 2 _ rfl
    clear k3 c20 c21 c22
    cases b4
    · go_wp2
      go_ret
      exact ⟨ret_int (by rw [WI.out]; rfl), K3.out⟩
    · go_wp2
      go_ret
      exact ⟨ret_int (by rw [WI.out]; rfl), K3.out⟩

set_option maxRecDepth 100000 in
theorem gread_any (B : Nat) (L : FL) (s : FS) (q first count : Nat) (a m : Int) (w : World) (h : FAt w B L s) (hq : L.bf = q) (hf : first + count ≤ 256) : Calls Try.prog 38 #[.agg #[.pointer (some ⟨q, 0, none⟩), .int .i64 first, .int .i64 count], .int .i64 a, .int .i64 m] w (ReadTold w (s.gread first count a m)) := by
  have MAY := Lib.hid (fun w' (hh : FAt w' B L s) => gmay_any B L s q first count a m w' hh hq (by omega))
  have RD := Lib.hid (fun w' a (hh : FAt w' B L s) => fread_any B L s a m w' hh)
  simp only [FL.p, hq] at RD
  have GR : Hid (s.gread first count a m = if s.dark = true then ([], 5) else if withinB a m (1024 * count : Nat) = true then s.readF (1024 * first + a) m else ([], 2)) := rfl
  have k0 : Keeps None w (w.alloc (.cells #[.pointer (some ⟨q, 0, none⟩), .int .i64 first, .int .i64 count] 49)) := (Keeps.refl None w).alloc _
  have bx : Blk (w.alloc (.cells #[.pointer (some ⟨q, 0, none⟩), .int .i64 first, .int .i64 count] 49)) w.heap.size [.pointer (some ⟨q, 0, none⟩), .int .i64 first, .int .i64 count] 49 := Blk.new w [.pointer (some ⟨q, 0, none⟩), .int .i64 first, .int .i64 count] 49
  have K0 := Lib.hid k0
  have BX := Lib.hid bx
  clear k0 bx
  have H0 := Lib.hid (h.later K0.out)
  clear h
  have gen : ∀ er : Int, er ≠ 0 → mayF s.dark a m (1024 * count : Nat) = er → s.gread first count a m = ([], er) → Calls Try.prog 38 #[.agg #[.pointer (some ⟨q, 0, none⟩), .int .i64 first, .int .i64 count], .int .i64 a, .int .i64 m] w (ReadTold w (s.gread first count a m)) := by
    intro er h0 hm hg
    have e1 : (er != 0) = true := by simp [h0]
    have HG := Lib.hid hg
    rw [hm] at MAY
    clear hm hg h0
    go_enter Try.func38, Try.ntmps38
    go_wp2_with fail
    refine (MAY.out _ H0.out).mono ?_
    rintro e w1 ⟨rfl, k1⟩
    have K1 := Lib.hid (K0.out.trans k1 (T := None) (fun _ h => h) (fun _ _ h => h))
    clear k1
    go_wp2
    go_ret2
    rw [HG.out]
    exact ⟨_, rfl, Own.nil _ _, K1.out⟩
  cases hd : s.dark with
  | true => exact gen 5 (by decide) (by rw [hd]; rfl) (by rw [GR.out, if_pos hd])
  | false =>
    cases hw : withinB a m (1024 * count : Nat) with
    | false => exact gen 2 (by decide) (by rw [hd]; unfold mayF; rw [if_neg (by decide), if_neg (by rw [hw]; decide)]) (by rw [GR.out, if_neg (by rw [hd]; decide), if_neg (by rw [hw]; decide)])
    | true =>
      have hg : s.gread first count a m = s.readF (1024 * first + a) m := by rw [GR.out, if_neg (by rw [hd]; decide), if_pos hw]
      have hm : mayF s.dark a m (1024 * count : Nat) = 0 := by rw [hd]; unfold mayF; rw [if_neg (by decide), if_pos hw]
      obtain ⟨i, j, rfl, rfl, hij⟩ := within_nat hw
      rw [hg]
      rw [hm] at MAY
      have BS := Lib.hid (fun w => gbase_any (some ⟨q, 0, none⟩) first count (by omega) w)
      obtain ⟨bs, hbs⟩ : ∃ b : Nat, 1024 * first = b := ⟨_, rfl⟩
      obtain ⟨p, hp⟩ : ∃ p : Nat, bs + i = p := ⟨_, rfl⟩
      have e1 : (1024 * (first : Int) + i) = (p : Int) := by omega
      rw [e1]
      rw [hbs] at BS
      have w1 : IntKind.i64.wrap ((bs : Int) + i) = p := by rw [show (bs : Int) + i = (p : Int) by omega]; exact wrap_nat _ (by omega)
      have RDp := Lib.hid (fun w' (hh : FAt w' B L s) => RD.out w' p hh)
      generalize s.readF p j = r at *
      clear gen GR hg hm hw hd RD hbs hp e1
      go_enter Try.func38, Try.ntmps38
      go_wp2_with fail
      refine (MAY.out _ H0.out).mono ?_
      rintro e w1' ⟨rfl, k1⟩
      have K1 := Lib.hid (K0.out.trans k1 (T := None) (fun _ h => h) (fun _ _ h => h))
      have B1 := Lib.hid (k1.blk BX.out (fun h => h))
      have H1 := Lib.hid (H0.out.later k1)
      clear k1
      go_wp2
      obtain ⟨mS, mh⟩ : ∃ S : World → Prop, ∀ w', S w' ↔ (w'.cell? ⟨w.heap.size, 0, none⟩ = some (.pointer (some ⟨q, 0, none⟩)) ∧ w'.cell? ⟨w.heap.size, 1, none⟩ = some (.int .i64 first) ∧ w'.cell? ⟨w.heap.size, 2, none⟩ = some (.int .i64 count)) := ⟨_, fun _ => Iff.rfl⟩
      have mk0 : ∀ x : Memb mS, x.at_.cell? ⟨w.heap.size, 0, none⟩ = some (.pointer (some ⟨q, 0, none⟩)) := fun x => ((mh _).1 x.is).1
      have mk1 : ∀ x : Memb mS, x.at_.cell? ⟨w.heap.size, 1, none⟩ = some (.int .i64 first) := fun x => ((mh _).1 x.is).2.1
      have mk2 : ∀ x : Memb mS, x.at_.cell? ⟨w.heap.size, 2, none⟩ = some (.int .i64 count) := fun x => ((mh _).1 x.is).2.2
      have mn : Nonempty (Memb mS) := ⟨⟨(w1').drew, (mh _).2 ⟨B1.out.cellD 0 _ rfl, B1.out.cellD 1 _ rfl, B1.out.cellD 2 _ rfl⟩⟩⟩
      have mH := Lib.hid mh
      clear mh
      refine wp_region_mix [3, 7] (InS mS) (by kernel_rfl) (by kernel_rfl) (InS.mk ((mH.out _).2 ⟨B1.out.cellD 0 _ rfl, B1.out.cellD 1 _ rfl, B1.out.cellD 2 _ rfl⟩)) ?_
      refine wpMix_seg 3 (by kernel_rfl) (by decide) ?_
      simp only [List.take_succ_cons, List.take_zero, List.drop_succ_cons, List.drop_zero]
      repeat (go_big_quiet_step (fail))
      refine wpQuiet_nil ?_
      refine wpMix_eff (by kernel_rfl) ?_
      go_wp2_with fail
      refine (BS.out _).mono ?_
      rintro e w2 ⟨rfl, k2⟩
      have K2 := Lib.hid (K1.out.drew.trans k2 (T := None) (fun _ h => h) (fun _ _ h => h))
      have B2 := Lib.hid (k2.blk B1.out.drew (fun h => h))
      have H2 := Lib.hid (H1.out.drew.later k2)
      clear k2
      go_wp2
      refine MixK.on (InS.mk ((mH.out _).2 (⟨B2.out.cellD 0 _ rfl, B2.out.cellD 1 _ rfl, B2.out.cellD 2 _ rfl⟩))) ?_
      refine wpMix_seg 3 (by kernel_rfl) (by decide) ?_
      simp only [List.take_succ_cons, List.take_zero, List.drop_succ_cons, List.drop_zero]
      repeat (go_big_quiet_step (fail))
      refine wpQuiet_nil ?_
      refine wpMix_eff (by kernel_rfl) ?_
      go_wp2_with fail
      refine (RDp.out _ H2.out).mono ?_
      rintro e w3 ⟨v3, rfl, o3, k3⟩
      have K3 := Lib.hid (K2.out.trans k3 (T := None) (fun _ h => h) (fun _ _ h => h))
      have B3 := Lib.hid (k3.blk B2.out (fun h => h))
      have O3 := Lib.hid (o3.lower K2.out.size)
      clear o3 k3
      go_wp2
      refine MixK.on (InS.mk ((mH.out _).2 (⟨B3.out.cellD 0 _ rfl, B3.out.cellD 1 _ rfl, B3.out.cellD 2 _ rfl⟩))) ?_
      refine wpMix_seg 4 (by kernel_rfl) (by decide) ?_
      simp only [List.take_succ_cons, List.take_zero, List.drop_succ_cons, List.drop_zero]
      repeat (go_big_quiet_step (fail))
      refine wpQuiet_nil ?_
      refine wpMix_nil ?_
      clear mk0 mk1 mk2 mn mH
      go_wp2
      go_ret2
      exact ⟨_, rfl, O3.out, K3.out⟩
end Go.Proofs.Ytgehkioneelgcaa
