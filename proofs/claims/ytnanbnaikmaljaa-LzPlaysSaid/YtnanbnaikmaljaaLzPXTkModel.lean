
/- What is learned of tokens: in plain words, in memory; the walk of token.fresh. -/
import Derived.Test.YtnanbnaikmaljaaLzPXTkRef
import Derived.Test.YtnanbnaikmaljaaLzPXCodTree2
import Derived.Laws.ResultCell
import Derived.Deep.WholeRow
namespace Go.Proofs.Ytnanbnaikmaljaa
open Go.RowKit

structure Ms where
  p0 : Int
  p1 : Int
  beh : Int
  bt : List Int
  lt : List Int
  dt : List Int
def Ms.pr (m : Ms) : Int := if m.beh = 0 then m.p0 else m.p1
def Ms.kind (m : Ms) (is : Int) : Ms := if m.beh = 0 then { m with p0 := adapt m.p0 is, beh := is } else { m with p1 := adapt m.p1 is, beh := is }
/-- The halves of v from the j-th on down. -/
def hRun (v : Nat) : Nat → CSt → CSt
  | 0, c => c
  | i + 1, c => hRun v i ⟨cHalfL c.l c.w (vbit v i), cHalfW c.w⟩
def eTok (c : CSt) (m : Ms) (t : Tok) : CSt × Ms :=
  if t.n = 0 then
    ((tRun t.b.toNat 8 ⟨cBitS c m.pr 0, (m.kind 0).bt, 1⟩).c, { m.kind 0 with bt := (tRun t.b.toNat 8 ⟨cBitS c m.pr 0, (m.kind 0).bt, 1⟩).ps })
  else
    (hRun (t.d - 1).toNat 6 (tRun ((t.d - 1).toNat / 64) 6 ⟨(tRun (t.n - 2).toNat 8 ⟨cBitS c m.pr 1, (m.kind 1).lt, 1⟩).c, (m.kind 1).dt, 1⟩).c,
     { m.kind 1 with lt := (tRun (t.n - 2).toNat 8 ⟨cBitS c m.pr 1, (m.kind 1).lt, 1⟩).ps, dt := (tRun ((t.d - 1).toNat / 64) 6 ⟨(tRun (t.n - 2).toNat 8 ⟨cBitS c m.pr 1, (m.kind 1).lt, 1⟩).c, (m.kind 1).dt, 1⟩).ps })
def eRow : List Tok → CSt × Ms → CSt × Ms
  | [], x => x
  | t :: ts, x => eRow ts (eTok x.1 x.2 t)
def ms0 : Ms := { p0 := 1024, p1 := 1024, beh := 0, bt := List.replicate (2 ^ 8) 1024, lt := List.replicate (2 ^ 8) 1024, dt := List.replicate (2 ^ 6) 1024 }
def cst0 : CSt := ⟨[0, 0, 0, 0], 4294967295⟩
def packL (ts : List Tok) : List Int := if rightB ts 0 = true then (eRow ts (cst0, ms0)).1.l else []

/-- Where it lies. -/
structure TL where
  sb : Nat
  b1 : Nat
  g1 : Nat
  b2 : Nat
  g2 : Nat
  b3 : Nat
  g3 : Nat
structure TL.Ord (T : TL) : Prop where
  o1 : T.g1 < T.b1
  o2 : T.b1 < T.g2
  o3 : T.g2 < T.b2
  o4 : T.b2 < T.g3
  o5 : T.g3 < T.b3
  o6 : T.b3 < T.sb
structure MOk (m : Ms) : Prop where
  o1 : TOk m.bt 8
  o2 : TOk m.lt 8
  o3 : TOk m.dt 6
  be : m.beh = 0 ∨ m.beh = 1
theorem MOk.start : MOk ms0 := ⟨TOk.new 8, TOk.new 8, TOk.new 6, .inl rfl⟩
structure Trees (w : World) (T : TL) (m : Ms) : Prop where
  t1 : MTree w T.b1 T.g1 m.bt
  t2 : MTree w T.b2 T.g2 m.lt
  t3 : MTree w T.b3 T.g3 m.dt
def mcells (T : TL) (m : Ms) : List Value := [.int .i64 m.p0, .int .i64 m.p1, .int .i64 m.beh, .pointer (some ⟨T.b1, 0, none⟩), .pointer (some ⟨T.b2, 0, none⟩), .pointer (some ⟨T.b3, 0, none⟩)]
def magg (T : TL) (m : Ms) : Value := .agg #[.int .i64 m.p0, .int .i64 m.p1, .int .i64 m.beh, .pointer (some ⟨T.b1, 0, none⟩), .pointer (some ⟨T.b2, 0, none⟩), .pointer (some ⟨T.b3, 0, none⟩)]
theorem Trees.keeps {w w' : World} {T : TL} {m : Ms} {S : Nat → Prop} (h : Trees w T m) (hk : Keeps S w w') (hS : ∀ k, T.g1 ≤ k → k ≤ T.b3 → ¬ S k) (o : T.Ord) : Trees w' T m := by
  obtain ⟨o1, o2, o3, o4, o5, o6⟩ := o
  exact ⟨h.t1.keeps hk (hS _ (by omega) (by omega)) (hS _ (by omega) (by omega)), h.t2.keeps hk (hS _ (by omega) (by omega)) (hS _ (by omega) (by omega)), h.t3.keeps hk (hS _ (by omega) (by omega)) (hS _ (by omega) (by omega))⟩
theorem infoState : (Try.prog.info? 89).map (fun i => (i.zero, i.size)) = some (some (.agg #[.int .i64 0, .int .i64 0, .int .i64 0, .pointer none, .pointer none, .pointer none]), 6) := by kernel_rfl
theorem state_res {fn : Func} (hr : fn.results = #[.cell 0 89]) {w : World} {g : Nat} {a b c d e f : Value} {T : TypeId} (tmps : Array Value) (h : Blk w g [a, b, c, d, e, f] T) (h2 : tmps.getD 0 undef = .pointer (some ⟨g, 0, none⟩)) :
    (results fn tmps).run Try.prog w = .ok (.agg #[a, b, c, d, e, f]) w := by
  have hl : (loadVar 89 ⟨g, 0, none⟩).run Try.prog w = .ok (.agg #[a, b, c, d, e, f]) w :=
    run_loadVar_row w g T 89 #[a, b, c, d, e, f] (0, 0) _ h Try.underlying89 rfl (by rw [(zero_of_info infoState).2]; rfl)
  simp only [results, hr]
  have h2' : tmps[0]?.getD undef = .pointer (some ⟨g, 0, none⟩) := by simpa using h2
  simp [Sem.run_bind, Result.andThen, h2', asAddr, Sem.run_pure, hl]
set_option maxRecDepth 100000 in
theorem tkfresh_any (w : World) : Calls Try.prog 47 #[] w fun e w' => ∃ T : TL, e = .returned (magg T ms0) ∧ Trees w' T ms0 ∧ w.heap.size < T.g1 ∧ T.b3 < w'.heap.size ∧ (T.g1 < T.b1 ∧ T.b1 < T.g2 ∧ T.g2 < T.b2 ∧ T.b2 < T.g3 ∧ T.g3 < T.b3) ∧ Keeps None w w' := by
  have NW := Lib.hid (fun b w => new_any b w)
  go_enter Try.func47, Try.ntmps47
  go_wp2_with fail
  have B0 := Lib.hid (Blk.new w [.int .i64 0, .int .i64 0, .int .i64 0, .pointer none, .pointer none, .pointer none] 89)
  have K0 : Hid (Keeps None w (w.alloc (.cells #[.int .i64 0, .int .i64 0, .int .i64 0, .pointer none, .pointer none, .pointer none] 89))) := (Keeps.refl None w).alloc _
  have S0 : Hid ((w.alloc (.cells #[.int .i64 0, .int .i64 0, .int .i64 0, .pointer none, .pointer none, .pointer none] 89)).heap.size = w.heap.size + 1) := by show _ = _; simp
  obtain ⟨wa, hwa⟩ : ∃ x, w.alloc (.cells #[.int .i64 0, .int .i64 0, .int .i64 0, .pointer none, .pointer none, .pointer none] 89) = x := ⟨_, rfl⟩
  rw [hwa] at B0 K0 S0
  rw [hwa]
  clear hwa
  refine (NW.out 8 wa).mono ?_
  rintro e w1 ⟨rfl, m1, k1⟩
  have M1 := Lib.hid m1
  have B1 := Lib.hid (k1.blk B0.out (fun h => h))
  have K1 := Lib.hid (K0.out.trans k1 (T := None) (fun _ h => h) (fun _ _ h => h))
  have L1 := Lib.hid m1.1.lt
  clear m1 k1 K0 B0
  go_wp2_with fail
  refine (NW.out 8 w1).mono ?_
  rintro e w2 ⟨rfl, m2, k2⟩
  have M2 := Lib.hid m2
  have N1 := Lib.hid (M1.out.keeps k2 (fun h => h) (fun h => h))
  have B2 := Lib.hid (k2.blk B1.out (fun h => h))
  have K2 := Lib.hid (K1.out.trans k2 (T := None) (fun _ h => h) (fun _ _ h => h))
  have L2 := Lib.hid m2.1.lt
  clear m2 k2 K1 B1 M1
  go_wp2_with fail
  refine (NW.out 6 w2).mono ?_
  rintro e w3 ⟨rfl, m3, k3⟩
  have M3 := Lib.hid m3
  have O1 := Lib.hid (N1.out.keeps k3 (fun h => h) (fun h => h))
  have O2 := Lib.hid (M2.out.keeps k3 (fun h => h) (fun h => h))
  have B3 := Lib.hid (k3.blk B2.out (fun h => h))
  have K3 := Lib.hid (K2.out.trans k3 (T := None) (fun _ h => h) (fun _ _ h => h))
  have L3 := Lib.hid m3.1.lt
  clear m3 k3 K2 B2 M2 N1
  have x0 := B3.out.cellD 0 _ rfl
  have x1 := B3.out.cellD 1 _ rfl
  have x2 := B3.out.cellD 2 _ rfl
  have x3 := B3.out.cellD 3 _ rfl
  have x4 := B3.out.cellD 4 _ rfl
  have x5 := B3.out.cellD 5 _ rfl
  have z0 := B3.out.frozen 0
  have z1 := B3.out.frozen 1
  have z2 := B3.out.frozen 2
  have z3 := B3.out.frozen 3
  have z4 := B3.out.frozen 4
  have z5 := B3.out.frozen 5
  go_wp2
  have hb := (((((B3.out.set 0 (.int .i64 1024)).set 1 (.int .i64 1024)).set 2 (.int .i64 0)).set 3 (.pointer (some ⟨wa.heap.size + 1, 0, none⟩))).set 4 (.pointer (some ⟨w1.heap.size + 1, 0, none⟩))).set 5 (.pointer (some ⟨w2.heap.size + 1, 0, none⟩))
  have kb := ((((((Keeps.self w.heap.size w3).put 0 (.int .i64 1024)).put 1 (.int .i64 1024)).put 2 (.int .i64 0)).put 3 (.pointer (some ⟨wa.heap.size + 1, 0, none⟩))).put 4 (.pointer (some ⟨w1.heap.size + 1, 0, none⟩))).put 5 (.pointer (some ⟨w2.heap.size + 1, 0, none⟩))
  have s0 := S0.out
  have l1 := L1.out
  have l2 := L2.out
  have l3 := L3.out
  refine bodyPost_ret (state_res rfl _ hb rfl) rfl ?_
  exact ⟨⟨0, wa.heap.size + 1, wa.heap.size, w1.heap.size + 1, w1.heap.size, w2.heap.size + 1, w2.heap.size⟩, rfl, ⟨O1.out.keeps kb (by show ¬ _ = _; omega) (by show ¬ _ = _; omega), O2.out.keeps kb (by show ¬ _ = _; omega) (by show ¬ _ = _; omega), M3.out.keeps kb (by show ¬ _ = _; omega) (by show ¬ _ = _; omega)⟩,
    by show w.heap.size < wa.heap.size; omega, Nat.lt_of_lt_of_le l3 kb.size, ⟨by show wa.heap.size < wa.heap.size + 1; omega, by show wa.heap.size + 1 < w1.heap.size; omega, by show w1.heap.size < w1.heap.size + 1; omega, by show w1.heap.size + 1 < w2.heap.size; omega, by show w2.heap.size < w2.heap.size + 1; omega⟩, K3.out.trans kb (fun _ h => h) (fun i hi e => by have e : i = w.heap.size := e; omega)⟩
end Go.Proofs.Ytnanbnaikmaljaa
