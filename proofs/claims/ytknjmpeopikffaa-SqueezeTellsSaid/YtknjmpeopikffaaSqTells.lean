/-
  For every row of bytes and every place, the law SqueezeTells returns true: squeeze and the reference tell the same best copy, the same tokens, the same packed bytes and the same refusals. No condition.
-/
import Derived.Test.YtknjmpeopikffaaSqRef
import Derived.Test.YtknjmpeopikffaaSqGreat
namespace Go.Proofs.Ytknjmpeopikffaa
open Go.RowKit Go.ChangeShapes Go.WideShapes Go.ChangeAt

theorem wpList_append_bs_g {ops : Array Oper} {rest : List Oper} {o : Oper} {a : Act} {Q : Exit → Act → World → Prop} {s x : Operand} {w : World} {B : Nat} {v : Value} {zs ns : List Int} {A : Option Addr} {m c : Nat}
    (hw : Region.wanted o (yielded ops a.tmps) = true) (hown : Own w B v zs) (hs : Bs w A m c ns) (hlen : zs.length + m ≤ 1099511627776) (hB : B ≤ w.heap.size) (hty : o.type = 32) (ho : o.op = .call { callee := .builtin .append, args := #[s, x], argTypes := #[32, 32] }) (h1 : a.eval s = v) (h2 : a.eval x = .slice A m c)
    (h : ∀ v' w', Own w' B v' (zs ++ ns) → Keeps (fun k => v.ownBlock = some k) w w' → wpList Try.prog ops Q rest (a.put o.dst v') w') : wpList Try.prog ops Q (o :: rest) a w := by
  obtain ⟨v', w', hr, h3, h4, _⟩ := run_append_bs hown hs hlen hB
  refine wpList_step fun K hK => ?_
  rw [if_pos hw]
  unfold Oper.wp execOp
  simp only [ho, hty, resolve, invoke, builtin, Sem.run_bind, Sem.run_pure, Result.andThen_ok, List.map_toArray, List.map_cons, List.map_nil, h1, h2, hr]
  exact hK _ _ (h v' w' h3 h4)
def TwoN (n d : Nat) : Value := .tuple #[.int .i64 n, .int .i64 d]
theorem qbest_no (A : Option Addr) (L cap : Nat) (at_ : Int) (w : World) (hm : L ≤ 9223372036854775807) (h : at_ < 0 ∨ (L : Int) ≤ at_) : Calls Try.prog 42 #[.slice A L cap, .int .i64 at_] w (Tells (TwoN 0 0) w) := by
  by_cases h1 : at_ < 0
  · have d1 : decide (at_ < 0) = true := decide_eq_true h1
    clear h
    go_enter Try.func42, Try.ntmps42
    go_wp2
    go_step3
    go_wp2
    all_goals try rw [Exit.noGoto_ret]
    all_goals go_ret2
    exact ⟨rfl, Keeps.refl _ _⟩
  · have d1 : decide (at_ < 0) = false := decide_eq_false h1
    have d2 : decide ((L : Int) ≤ at_) = true := decide_eq_true (by omega)
    clear h
    go_enter Try.func42, Try.ntmps42
    go_wp2
    go_step3
    go_wp2
    all_goals try rw [Exit.noGoto_ret]
    all_goals go_ret2
    exact ⟨rfl, Keeps.refl _ _⟩
theorem rqbest_no (A : Option Addr) (L cap : Nat) (at_ : Int) (w : World) (hm : L ≤ 9223372036854775807) (h : at_ < 0 ∨ (L : Int) ≤ at_) : Calls Try.prog 43 #[.slice A L cap, .int .i64 at_] w (Tells (TwoN 0 0) w) := by
  by_cases h1 : 0 < at_
  · have d1 : decide (0 < at_) = true := decide_eq_true h1
    have d2 : decide (at_ < (L : Int)) = false := decide_eq_false (by omega)
    clear h
    go_enter Try.func43, Try.ntmps43
    go_wp2
    go_loopw [6, 7, 8] (fun nv dv iv wr => nv = .int .i64 (0 : Int) ∧ dv = .int .i64 (0 : Int) ∧ iv = .int .i64 (1 : Int) ∧ wr = w) (fun _ _ _ _ => 0)
    case atStart => exact ⟨rfl, rfl, rfl, rfl⟩
    case round =>
      obtain ⟨rfl, rfl, rfl, rfl⟩ := hrel
      go_wp2
      go_ret2
      exact ⟨rfl, Keeps.refl _ _⟩
  · have d1 : decide (0 < at_) = false := decide_eq_false h1
    clear h
    go_enter Try.func43, Try.ntmps43
    go_wp2
    go_loopw [6, 7, 8] (fun nv dv iv wr => nv = .int .i64 (0 : Int) ∧ dv = .int .i64 (0 : Int) ∧ iv = .int .i64 (1 : Int) ∧ wr = w) (fun _ _ _ _ => 0)
    case atStart => exact ⟨rfl, rfl, rfl, rfl⟩
    case round =>
      obtain ⟨rfl, rfl, rfl, rfl⟩ := hrel
      go_wp2
      go_ret2
      exact ⟨rfl, Keeps.refl _ _⟩
theorem bests_any (A : Option Addr) (L cap : Nat) (zs : List Int) (at_ : Int) (hm : L ≤ 9223372036854775807) : ∃ n d : Nat, (∀ w, Bs w A L cap zs → Calls Try.prog 42 #[.slice A L cap, .int .i64 at_] w (Tells (TwoN n d) w)) ∧ (∀ w, Bs w A L cap zs → Calls Try.prog 43 #[.slice A L cap, .int .i64 at_] w (Tells (TwoN n d) w)) := by
  by_cases h : at_ < 0 ∨ (L : Int) ≤ at_
  · exact ⟨0, 0, fun w _ => qbest_no A L cap at_ w hm h, fun w _ => rqbest_no A L cap at_ w hm h⟩
  obtain ⟨a, rfl⟩ : ∃ a : Nat, at_ = a := ⟨at_.toNat, by omega⟩
  have ha : a < L := by omega
  by_cases hx : ∃ n d : Nat, BestOf zs a n d
  · obtain ⟨n, d, hb⟩ := hx
    refine ⟨n, d, fun w hw => (qbest_any A L cap zs a w hw ha).mono ?_, fun w hw => (rqbest_any A L cap zs a w hw ha).mono ?_⟩
    · rintro e w' ⟨n', d', rfl, hb', k, rfl⟩
      obtain ⟨rfl, rfl⟩ := hb.uniq hb'
      exact ⟨rfl, (Keeps.refl _ _).drewN _⟩
    · rintro e w' ⟨n', d', rfl, hb', k, rfl⟩
      obtain ⟨rfl, rfl⟩ := hb.uniq hb'
      exact ⟨rfl, (Keeps.refl _ _).drewN _⟩
  · refine ⟨0, 0, fun w hw => (qbest_any A L cap zs a w hw ha).mono ?_, fun w hw => (rqbest_any A L cap zs a w hw ha).mono ?_⟩
    · rintro e w' ⟨n', d', rfl, hb', k, rfl⟩
      exact absurd ⟨n', d', hb'⟩ hx
    · rintro e w' ⟨n', d', rfl, hb', k, rfl⟩
      exact absurd ⟨n', d', hb'⟩ hx

set_option maxRecDepth 100000 in
set_option maxHeartbeats 3200000 in
theorem tells21_any (A : Option Addr) (L cap : Nat) (zs : List Int) (at_ : Int) (W : World) (h : Bs W A L cap zs) :
    Calls Try.prog 15 #[.slice A L cap, .int .i64 at_] W fun e w' => e = .returned (.bool true) ∧ Below W.heap.size W w' := by
  have hle := h.le
  have hmx := h.max
  have HL := Lib.hid h.len
  have HB := Lib.hid h
  clear h
  by_cases g0 : 600 < L
  · have d0 : decide (600 < (L : Int)) = true := decide_eq_true (by omega)
    go_enter Try.func15, Try.ntmps15
    go_wp2_with fail
    refine (alive21_any W).mono ?_
    rintro e w1 ⟨rfl, K1⟩
    go_wp2
    go_ret
    exact ⟨rfl, K1.below (fun _ _ h => h)⟩
  have d0 : decide (600 < (L : Int)) = false := decide_eq_false (by omega)
  obtain ⟨n, d, hq, hr⟩ := bests_any A L cap zs at_ (by omega)
  have BQ := Lib.hid hq
  have BR := Lib.hid hr
  obtain ⟨⟨pk, er⟩, hp⟩ : ∃ x, sqP zs = x := ⟨_, rfl⟩
  have SP := Lib.hid hp
  clear hq hr hp
  go_enter Try.func15, Try.ntmps15
  go_wp2_with fail
  refine (alive21_any W).mono ?_
  rintro e w1 ⟨rfl, k1⟩
  have K1 := Lib.hid k1
  clear k1
  go_wp2_with fail
  refine (BQ.out _ (HB.out.keeps K1.out (fun _ _ _ _ _ h => h))).mono ?_
  rintro e w2 ⟨rfl, k2⟩
  unfold TwoN
  have K2 := Lib.hid (K1.out.trans k2 (T := None) (fun _ h => h) (fun _ _ h => h))
  clear k2
  go_wp2_with fail
  refine (BR.out _ (HB.out.keeps K2.out (fun _ _ _ _ _ h => h))).mono ?_
  rintro e w3 ⟨rfl, k3⟩
  try unfold TwoN
  have K3 := Lib.hid (K2.out.trans k3 (T := None) (fun _ h => h) (fun _ _ h => h))
  clear k3
  go_wp2_with fail
  refine (qpack_any A L cap zs _ (HB.out.keeps K3.out (fun _ _ _ _ _ h => h))).mono ?_
  rw [SP.out]
  rintro e w4 ⟨v4, rfl, o4, k4⟩
  obtain ⟨A4, c4, rfl, b4, -⟩ := o4.shape
  have K4 := Lib.hid (K3.out.trans k4 (T := None) (fun _ h => h) (fun _ _ h => h))
  have B4 := Lib.hid b4
  have l4 := b4.le
  have m4 := b4.max
  clear o4 k4 b4
  go_wp2_with fail
  refine (rqsq_any A L cap zs _ (HB.out.keeps K4.out (fun _ _ _ _ _ h => h))).mono ?_
  rw [SP.out]
  rintro e w5 ⟨v5, rfl, o5, k5⟩
  obtain ⟨A5, c5, rfl, b5, -⟩ := o5.shape
  have K5 := Lib.hid (K4.out.trans k5 (T := None) (fun _ h => h) (fun _ _ h => h))
  have B4' := Lib.hid (B4.out.keeps k5 (fun _ _ _ _ _ h => h))
  have B5 := Lib.hid b5
  have l5 := b5.le
  clear o5 k5 b5 B4
  obtain ⟨lp, hlp⟩ : ∃ x, pk.length = x := ⟨_, rfl⟩
  rw [hlp] at B4' B5 l4 l5 ⊢
  clear hlp
  go_wp2_with (at_builtin; refine Hid.out ?_)
  refine Lib.hid ?_
  refine wpList_append_bs_g (by rfl) (Own.nil _ w5.heap.size) (HB.out.keeps K5.out (fun _ _ _ _ _ h => h)) (by simp; omega) (Nat.le_refl _) rfl rfl rfl rfl ?_
  rw [List.nil_append]
  intro v6 w6 o6 k6
  obtain ⟨A6, c6, rfl, b6, -⟩ := o6.shape
  rw [HL.out] at b6 ⊢
  have K56 : Hid (Keeps None w5 w6) := k6.mono (fun _ _ e => by simp [Value.ownBlock] at e)
  have K6 := Lib.hid (K5.out.trans K56.out (T := None) (fun _ h => h) (fun _ _ h => h))
  have B6 := Lib.hid b6
  have l6 := b6.le
  have m6 := b6.max
  clear o6 k6 b6
  go_wp2_with fail
  refine (qtok_any A6 L c6 zs _ B6.out).mono ?_
  rintro e w7 ⟨v7, rfl, o7, wf7, -, k7⟩
  obtain ⟨A7, c7, rfl, t7, -⟩ := o7.shape wf7
  have K57 := Lib.hid (K56.out.trans k7 (T := None) (fun _ h => h) (fun _ _ h => h))
  have T7 := Lib.hid t7
  clear o7 wf7 k7 t7 K56
  go_wp2_with fail
  refine (rqtok_any A L cap zs _ (HB.out.keeps (K5.out.trans K57.out (T := None) (fun _ h => h) (fun _ _ h => h)) (fun _ _ _ _ _ h => h))).mono ?_
  rintro e w8 ⟨v8, rfl, o8, wf8, -, k8⟩
  obtain ⟨A8, c8, rfl, t8, -⟩ := o8.shape wf8
  have K58 := Lib.hid (K57.out.trans k8 (T := None) (fun _ h => h) (fun _ _ h => h))
  have T8 := Lib.hid t8
  have T7' := Lib.hid (T7.out.later k8)
  clear o8 wf8 k8 t8 K57 T7
  go_wp2_with fail
  refine (rqsame_any A7 A8 _ c7 c8 _ _ T7'.out T8.out).mono ?_
  rintro e w9 ⟨rfl, k9⟩
  have K59 := Lib.hid (K58.out.trans k9 (T := None) (fun _ h => h) (fun _ _ h => h))
  have K9 := Lib.hid (K5.out.trans K59.out (T := None) (fun _ h => h) (fun _ _ h => h))
  have s4 := run_str (B4'.out.keeps K59.out (fun _ _ _ _ _ h => h))
  have s5 := run_str (B5.out.keeps K59.out (fun _ _ _ _ _ h => h))
  obtain ⟨sz, hsz⟩ : ∃ x, strOf pk = x := ⟨_, rfl⟩
  rw [hsz] at s4 s5
  have qz : (sz.toList == sz.toList) = true := by simp
  clear k9 K58 T7' T8 B4' B5 hsz
  go_wp2_with fail
  refine (num21_any _ _).mono ?_
  rintro e w' ⟨rfl, rfl⟩
  go_wp2
  go_ret
  exact ⟨by first | rfl | simp, K9.out.below (fun _ _ h => h)⟩
set_option maxRecDepth 100000 in
theorem SqueezeTells_lifted (os : Os) (started : os.Started) (H : Type) (enc : TypeId × Value → H) :
    ReturnsInHanded {} Try.checked os 15 .any (Rows.squeezeTellsSpec.pre6 enc Try.prog Try.f15 Rows.squeezeTellsRow.domain false) (Rows.squeezeTellsSpec.post enc Try.prog Try.f15 false true false false) := by
  refine returnsInHanded_of_change (C := Try.checked) Try.own started (by kernel_rfl) Try.func15
    (ChangeSpec.witness6 (enc := enc) (C := Try.checked) false ⟨#[], #[.slice none 0 0, .int .i64 0], []⟩ 8 (by kernel_rfl) (by kernel_rfl) (by kernel_rfl) (by kernel_rfl)) ?_
  intro W base args ds gs before hval0 hW hcnd _
  have hval : ∀ (j : Nat) t v, Try.f15.params[j]? = some t → args[j]? = some v → Value.okWide Try.prog W .any base t v := hval0
  have hW' := hW
  obtain ⟨p, q, hA0, hV, rfl, hfz, hnd⟩ := hW
  have hA : DataW.TrodAll enc Try.prog W 0 (fun _ => true) true Try.f15.params.toList args.toList ds p := hA0
  rw [Try.params15] at hA hval
  obtain ⟨v0, vs0, d0, ds0, p0, q0, hargs, rfl, rfl, h0, r0⟩ := trodAll_cons hA
  obtain ⟨v1, vs1, d1, ds1, p1, q1, rfl, rfl, rfl, h1, r1⟩ := trodAll_cons r0
  obtain ⟨rfl, rfl, rfl⟩ := trodAll_nil r1
  obtain rfl : args = #[v0, v1] := by cases args; simp_all
  obtain ⟨rfl, rfl⟩ := trodVars_none hV
  have k0 := h0
  have lt0 : ∀ x ∈ p0, x.block < W.heap.size := by obtain ⟨m, hm⟩ := k0; exact DataW.trod_lt m _ _ _ hm
  obtain ⟨a0, len0, cap0, rfl⟩ := okWide_slice Try.underlying32 (hval 0 32 v0 rfl rfl)
  obtain ⟨z0, s0⟩ := open_bs h0
  have k1 := h1
  have lt1 : ∀ x ∈ p1, x.block < W.heap.size := by obtain ⟨m, hm⟩ := k1; exact DataW.trod_lt m _ _ _ hm
  obtain ⟨a1, rfl, rfl, rfl, w1⟩ := open_int Try.underlying3 (hval 1 3 v1 rfl rfl) h1
  clear hA0 hval0
  refine (tells21_any a0 len0 cap0 z0 a1 W s0).mono fun e W' ⟨he, bel⟩ => ?_
  subst he
  exact ⟨_, rfl, _, _, _, [], _, [], hW', trodAll_mk1 (shut_bool Try.underlying4 _), (trodAll_cons_mk (Below.trod Try.laidOut (by kernel_rfl) (of_decide_eq_true (by kernel_rfl)) k0 bel lt0) (trodAll_cons_mk (Below.trod Try.laidOut (by kernel_rfl) (of_decide_eq_true (by kernel_rfl)) k1 bel lt1) trodAll_mk0)), rfl, bel.frame _, fun h => by cases h⟩

set_option maxRecDepth 100000 in
theorem SqueezeTells_closed : joinedFacts Try.checked.prog 15 Try.f15 Rows.squeezeTellsSpec Rows.squeezeTellsRow = true := by
  unfold joinedFacts
  rw [closed_laid, closed_maps, closed_heard, closed_plain, closed_mayEnter, closed_lifts, closed_make]
  kernel_rfl

theorem SqueezeTells_holds : Rows.SqueezeTellsSaid :=
  OpenClaim.holds_of_wide 15 Try.f15 rfl rfl rfl rfl rfl rfl rfl ⟨rfl, rfl, rfl, rfl, rfl⟩ rfl rfl rfl rfl rfl (by kernel_rfl) Try.func15 SqueezeTells_closed
    (of_decide_eq_true (by kernel_rfl)) (by unfold Func.isWrapper; first | (rw [if_pos (by decide +kernel)]; kernel_rfl) | (rw [if_neg (by decide +kernel)]; exact ⟨rfl, rfl⟩))
    (fun os started H enc _ => SqueezeTells_lifted os started H enc)
#print axioms SqueezeTells_holds
end Go.Proofs.Ytknjmpeopikffaa
