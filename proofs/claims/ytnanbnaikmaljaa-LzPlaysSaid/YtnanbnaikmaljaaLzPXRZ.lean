
/- The reference's Lz: its state in plain words, in memory; New; append that tells where the row lies. -/
import Derived.Test.YtnanbnaikmaljaaLzPXRRP2
import Derived.Maps.AppendAt
namespace Go.Proofs.Ytnanbnaikmaljaa
open Go.RowKit

theorem run_append_bs_at {w : World} {B : Nat} {v : Value} {zs ns : List Int} {A : Option Addr} {m c : Nat} (hown : Own w B v zs) (hs : Bs w A m c ns) (hlen : zs.length + m ≤ 1099511627776) (hB : B ≤ w.heap.size) :
    ∃ v' w', (Builtin.append_ #[22, 22] 22 #[v, .slice A m c]).run Try.prog w = .ok v' w' ∧ Own w' B v' (zs ++ ns) ∧ Keeps (fun k => v.ownBlock = some k) w w' ∧ (v'.ownBlock = v.ownBlock ∨ v'.ownBlock = some w.heap.size) := by
  obtain ⟨i, hi, hz0, hz1, hz2⟩ := info_parts Try.info5
  cases A with
  | none =>
    obtain ⟨rfl, rfl⟩ := hs.nil rfl
    have e : ns = [] := List.eq_nil_of_length_eq_zero hs.len
    subst e
    exact ⟨v, w, run_append_owned_none (P := Try.prog) w B 22 22 5 i 1 Try.underlying22 hi v _ _ hown.1, by rw [List.append_nil]; exact hown, Keeps.refl _ _, .inl rfl⟩
  | some a =>
    have hcells : ∀ j u, (ns.map (Value.int .u8))[j]? = some u → w.cell? (a.add j) = some u := by
      intro j u hu
      have hj : j < ns.length := by
        rcases Nat.lt_or_ge j ns.length with h | h
        · exact h
        · rw [List.getElem?_eq_none (by simpa using h)] at hu; cases hu
      obtain ⟨b, off, e, _, hc⟩ := hs.at_ (by have := hs.len; omega)
      cases e
      have e2 : (⟨b, off, none⟩ : Addr).add j = ⟨b, off + j, none⟩ := by unfold Addr.add; split <;> simp_all
      rw [e2, hc j (by have := hs.len; omega), ← hu, map_getD 0 hj]
    obtain ⟨v', w', hr, ho, hg, -, hat⟩ := run_append_own_at (P := Try.prog) w B 22 22 5 i (.int .u8 0) 1 1 Try.underlying22 hi hz0 hz1 hz2 rfl (by decide) v zs.length (zs.map (.int .u8)) hown.1 a m c (ns.map (.int .u8)) (by simp [hs.len]) hcells
      (by intro u hu; obtain ⟨z, _, rfl⟩ := List.mem_map.1 hu; rfl) (by unfold maxLen; omega) (by omega) hB
    refine ⟨v', w', hr, ⟨?_, ?_⟩, (Keeps.refl _ w).grown hg (fun k hk _ => hk), hat⟩
    · rw [List.length_append, hs.len, List.map_append]; exact ho
    · intro z hz
      rcases List.mem_append.1 hz with hz | hz
      · exact hown.2 z hz
      · exact hs.byte z hz
theorem wpList_append_bs_at {ops : Array Oper} {rest : List Oper} {o : Oper} {a : Act} {Q : Exit → Act → World → Prop} {s x : Operand} {w : World} {B : Nat} {v : Value} {zs ns : List Int} {A : Option Addr} {m c : Nat}
    (hown : Own w B v zs) (hs : Bs w A m c ns) (hlen : zs.length + m ≤ 1099511627776) (hB : B ≤ w.heap.size) (hg : o.guard = none) (hty : o.type = 22) (ho : o.op = .call { callee := .builtin .append, args := #[s, x], argTypes := #[22, 22] }) (h1 : a.eval s = v) (h2 : a.eval x = .slice A m c)
    (h : ∀ v' w', Own w' B v' (zs ++ ns) → Keeps (fun k => v.ownBlock = some k) w w' → (v'.ownBlock = v.ownBlock ∨ v'.ownBlock = some w.heap.size) → wpList Try.prog ops Q rest (a.put o.dst v') w') : wpList Try.prog ops Q (o :: rest) a w := by
  obtain ⟨v', w', hr, h3, h4, h5⟩ := run_append_bs_at hown hs hlen hB
  exact wpList_append_run hr hg hty ho h1 h2 (h v' w' h3 h4 h5)

structure RZ where
  d : DSt
  q1 : List Int
  q2 : List Int
  q3 : List Int
  p0 : Int
  p1 : Int
  was : Int
  part : Nat
  node : Int
  t : Tok
  half : Int
  todo : Int
  out : List Int
  total : Nat
  st : Int
structure RZL where
  db : Nat
  b1 : Nat
  g1 : Nat
  b2 : Nat
  g2 : Nat
  b3 : Nat
  g3 : Nat
  zb : Nat
def rzcells (L : RZL) (v : Value) (z : RZ) : List Value := [.int .i64 (z.total : Int), .int .i64 z.st, v, .pointer (some ⟨L.db, 0, none⟩), .pointer (some ⟨L.b1, 0, none⟩), .pointer (some ⟨L.b2, 0, none⟩), .pointer (some ⟨L.b3, 0, none⟩), .int .i64 z.p0, .int .i64 z.p1, .int .i64 z.was, .int .i64 (z.part : Int), .int .i64 z.node, .int .i64 z.t.n, .int .i64 z.t.d, .int .u8 z.t.b, .int .i64 z.half, .int .i64 z.todo]
structure RZL.Ord (L : RZL) : Prop where
  o1 : L.db < L.b1
  o2 : L.b1 < L.g1
  o3 : L.g1 < L.b2
  o4 : L.b2 < L.g2
  o5 : L.g2 < L.b3
  o6 : L.b3 < L.g3
  o7 : L.g3 < L.zb
structure RZAt (w : World) (L : RZL) (v : Value) (z : RZ) : Prop where
  cc : Blk w L.zb (rzcells L v z) 53
  ow : Own w (L.zb + 1) v z.out
  dc : DAt w L.db 79 z.d
  t1 : RTree w L.b1 L.g1 8 z.q1
  t2 : RTree w L.b2 L.g2 8 z.q2
  t3 : RTree w L.b3 L.g3 6 z.q3
  ord : L.Ord
def RZB (L : RZL) (v : Value) (k : Nat) : Prop := (L.db ≤ k ∧ k ≤ L.zb) ∨ v.ownBlock = some k
/-- All of it but the row of bytes. -/
def RZC (L : RZL) (k : Nat) : Prop := L.db ≤ k ∧ k ≤ L.zb
theorem RZAt.keeps {w w' : World} {L : RZL} {v : Value} {z : RZ} {S : Nat → Prop} (h : RZAt w L v z) (hk : Keeps S w w') (hS : ∀ k, RZB L v k → ¬ S k) : RZAt w' L v z := by
  obtain ⟨o1, o2, o3, o4, o5, o6, o7⟩ := h.ord
  have c : ∀ k, L.db ≤ k → k ≤ L.zb → ¬ S k := fun k h1 h2 => hS k (.inl ⟨h1, h2⟩)
  exact ⟨hk.blk h.cc (c _ (by omega) (by omega)), h.ow.keeps hk (fun b hb => hS b (.inr hb)), h.dc.keeps hk (c _ (by omega) (by omega)), h.t1.keeps hk (c _ (by omega) (by omega)) (c _ (by omega) (by omega)), h.t2.keeps hk (c _ (by omega) (by omega)) (c _ (by omega) (by omega)), h.t3.keeps hk (c _ (by omega) (by omega)) (c _ (by omega) (by omega)), h.ord⟩
theorem RZAt.later {w w' : World} {L : RZL} {v : Value} {z : RZ} (h : RZAt w L v z) (hk : Keeps None w w') : RZAt w' L v z := h.keeps hk (fun _ _ h => h)
theorem RZAt.put {w : World} {L : RZL} {v : Value} {z z' : RZ} (h : RZAt w L v z) (i : Nat) (x : Value) (e : rzcells L v z' = (rzcells L v z).set i x) (e0 : z'.d = z.d) (e1 : z'.q1 = z.q1) (e2 : z'.q2 = z.q2) (e3 : z'.q3 = z.q3) (e4 : z'.out = z.out) : RZAt (w.setCell ⟨L.zb, i, none⟩ x) L v z' := by
  have ks := (Keeps.self L.zb w).put i x
  obtain ⟨o1, o2, o3, o4, o5, o6, o7⟩ := h.ord
  refine ⟨by rw [e]; exact h.cc.set i x, by rw [e4]; exact h.ow.keeps ks (fun b hb e => h.ow.notBelow (i := b) (by have e : b = L.zb := e; omega) hb), by rw [e0]; exact h.dc.keeps ks (by show ¬ _ = _; omega), by rw [e1]; exact h.t1.keeps ks (by show ¬ _ = _; omega) (by show ¬ _ = _; omega), by rw [e2]; exact h.t2.keeps ks (by show ¬ _ = _; omega) (by show ¬ _ = _; omega), by rw [e3]; exact h.t3.keeps ks (by show ¬ _ = _; omega) (by show ¬ _ = _; omega), h.ord⟩
theorem RZC.put {w w' : World} {L : RZL} (ord : L.Ord) (h : Keeps (RZC L) w w') (i : Nat) (x : Value) : Keeps (RZC L) w (w'.setCell ⟨L.zb, i, none⟩ x) :=
  h.trans ((Keeps.self L.zb w').put i x) (fun _ h => h) (fun k _ e => by
    obtain ⟨o1, o2, o3, o4, o5, o6, o7⟩ := ord
    have e : k = L.zb := e
    exact ⟨by omega, by omega⟩)
/-- What is good of it. -/
structure RZOk (z : RZ) : Prop where
  dok : DOk z.d
  l1 : z.q1.length = 256
  l2 : z.q2.length = 256
  l3 : z.q3.length = 64
  was : z.was = 0 ∨ z.was = 1
  part : z.part ≤ 4
  n1 : 1 ≤ z.node
  n2 : z.part = 1 ∨ z.part = 2 → z.node < 256
  n3 : z.part = 3 → z.node < 64
  n4 : z.part = 0 ∨ z.part = 4 → z.node = 1
  h0 : z.part = 4 → 1 ≤ z.half ∧ z.half ≤ 6 ∧ 0 ≤ z.t.d ∧ z.t.d < 4096 ∧ 0 ≤ z.t.n ∧ z.t.n ≤ 257
  ol : z.out.length ≤ 8192
  t8 : z.total ≤ 8192
def rz0 (total : Nat) : RZ := ⟨dst0, rnewN (2 ^ 8), rnewN (2 ^ 8), rnewN (2 ^ 6), 1024, 1024, 0, 0, 1, ⟨0, 0, 0⟩, 0, 0, [], total, 1⟩
set_option maxRecDepth 100000 in
set_option maxHeartbeats 1600000 in
theorem rlznew_yes (total : Nat) (W : World) (hp : total ≤ 8192) : Calls Try.prog 15 #[.int .i64 (total : Int)] W fun e w' => ∃ L : RZL, e = .returned (.tuple #[.pointer (some ⟨L.zb, 0, none⟩), .int .i64 0]) ∧ RZAt w' L (.slice none 0 0) (rz0 total) ∧ W.heap.size ≤ L.db ∧ L.zb < w'.heap.size ∧ Keeps None W w' := by
  have d1 : decide ((total : Int) < 0) = false := decide_eq_false (by omega)
  have d2 : decide (8192 < (total : Int)) = false := decide_eq_false (by omega)
  have NT := Lib.hid (fun b w => rnew_any b w)
  go_enter Try.func15, Try.ntmps15
  go_wp2_with fail
  refine (rdnew_any W).mono ?_
  rintro e w3 ⟨rfl, c3, k3⟩
  have C3 := Lib.hid c3
  have K3 := Lib.hid k3
  have L3 := Lib.hid c3.lt
  clear c3 k3
  go_wp2_with fail
  refine (NT.out 8 w3).mono ?_
  rintro e w4 ⟨rfl, t4, k4⟩
  have C4 := Lib.hid (C3.out.keeps k4 (fun h => h))
  have T4 := Lib.hid t4
  have K4 := Lib.hid (K3.out.trans k4 (T := None) (fun _ h => h) (fun _ _ h => h))
  have L4 := Lib.hid t4.2.1.lt
  clear t4 k4 C3 K3
  go_wp2_with fail
  refine (NT.out 8 w4).mono ?_
  rintro e w5 ⟨rfl, t5, k5⟩
  have C5 := Lib.hid (C4.out.keeps k5 (fun h => h))
  have U5 := Lib.hid (T4.out.keeps k5 (fun h => h) (fun h => h))
  have T5 := Lib.hid t5
  have K5 := Lib.hid (K4.out.trans k5 (T := None) (fun _ h => h) (fun _ _ h => h))
  have L5 := Lib.hid t5.2.1.lt
  clear t5 k5 C4 K4 T4
  go_wp2_with fail
  refine (NT.out 6 w5).mono ?_
  rintro e w6 ⟨rfl, t6, k6⟩
  have C6 := Lib.hid (C5.out.keeps k6 (fun h => h))
  have U6 := Lib.hid (U5.out.keeps k6 (fun h => h) (fun h => h))
  have V6 := Lib.hid (T5.out.keeps k6 (fun h => h) (fun h => h))
  have T6 := Lib.hid t6
  have K6 := Lib.hid (K5.out.trans k6 (T := None) (fun _ h => h) (fun _ _ h => h))
  have L6 := Lib.hid t6.2.1.lt
  clear t6 k6 C5 K5 T5 U5 NT
  go_wp2
  go_ret2
  refine ⟨⟨W.heap.size, w3.heap.size, w3.heap.size + 1, w4.heap.size, w4.heap.size + 1, w5.heap.size, w5.heap.size + 1, w6.heap.size⟩, rfl, ?_, Nat.le_refl _, by simp, K6.out.alloc _⟩
  have KA := (Keeps.refl None w6).alloc (.cells #[.int .i64 (total : Int), .int .i64 1, .slice none 0 0, .pointer (some ⟨W.heap.size, 0, none⟩), .pointer (some ⟨w3.heap.size, 0, none⟩), .pointer (some ⟨w4.heap.size, 0, none⟩), .pointer (some ⟨w5.heap.size, 0, none⟩), .int .i64 1024, .int .i64 1024, .int .i64 0, .int .i64 0, .int .i64 1, .int .i64 0, .int .i64 0, .int .u8 0, .int .i64 0, .int .i64 0] 53)
  exact ⟨Blk.new w6 _ _, Own.nil _ _, C6.out.keeps KA (fun h => h), U6.out.keeps KA (fun h => h) (fun h => h), V6.out.keeps KA (fun h => h) (fun h => h), T6.out.keeps KA (fun h => h) (fun h => h),
    ⟨L3.out, by show w3.heap.size < w3.heap.size + 1; omega, L4.out, by show w4.heap.size < w4.heap.size + 1; omega, L5.out, by show w5.heap.size < w5.heap.size + 1; omega, L6.out⟩⟩
set_option maxRecDepth 100000 in
theorem rlznew_no (plain : Int) (w : World) (hp : plain < 0 ∨ 8192 < plain) : Calls Try.prog 15 #[.int .i64 plain] w fun e w' => e = .returned (.tuple #[.pointer none, .int .i64 1]) ∧ w = w' := by
  by_cases g1 : plain < 0
  · have d1 : decide (plain < 0) = true := decide_eq_true g1
    go_enter Try.func15, Try.ntmps15
    go_wp2
    go_ret2
    exact ⟨rfl, rfl⟩
  · have d1 : decide (plain < 0) = false := decide_eq_false g1
    have d2 : decide (8192 < plain) = true := decide_eq_true (by omega)
    go_enter Try.func15, Try.ntmps15
    go_wp2
    go_ret2
    exact ⟨rfl, rfl⟩
end Go.Proofs.Ytnanbnaikmaljaa
