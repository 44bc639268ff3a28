/-
  For every row of bits, the law CoderLength returns true: bits that are coded by Half cost one bit each, four bytes and one more for each eight of them. No condition.
-/
import Derived.Test.YteokbedjcnfgiaaCodMath
import Derived.Test.YteokbedjcnfgiaaInit
namespace Go.Proofs.Yteokbedjcnfgiaa
open Go.RowKit Go.ChangeShapes Go.WideShapes Go.ChangeAt

set_option maxRecDepth 100000 in
set_option maxHeartbeats 800000 in
theorem alive16_any (w : World) : Calls Try.prog 37 #[] w fun e w' => e = .returned (.bool true) ∧ Below w.heap.size w w' := by
  have f1 : cHalfL [0, 0, 0, 0] 4294967295 1 = [127, 255, 255, 255] := by decide
  have f2 : adapt 1024 0 = 1056 := by decide
  have F1 := Lib.hid f1
  have F2 := Lib.hid f2
  clear f1 f2
  go_enter Try.func37, Try.ntmps37
  go_wp2_with fail
  refine (cnew_any _).mono ?_
  rintro e w1 ⟨rfl, c1, k1⟩
  go_wp2_with fail
  refine (cnew_any _).mono ?_
  rintro e w2 ⟨rfl, c2, k2⟩
  have l1 := c1.ltb
  have l1g := c1.ltg
  have HL := Lib.hid (chalf_any _ _ _ _ 1 w2 c2 (by decide) (by decide) (by decide))
  rw [F1.out] at HL
  have C1 := Lib.hid (c1.keeps k2 (fun h => h) (fun h => h))
  have K2 := Lib.hid ((k1.trans k2 (T := fun i => w.heap.size ≤ i) (fun _ h => h.elim) (fun _ _ h => h.elim)))
  clear c1 c2 k1
  go_wp2_with fail
  refine HL.out.mono ?_
  rintro e w3 ⟨rfl, g3, hg3, c3, k3⟩
  have C13 := Lib.hid (C1.out.keeps k3 (fun h => by omega) (fun h => by omega))
  have K3 := Lib.hid (K2.out.trans k3 (T := fun i => w.heap.size ≤ i) (fun _ h => h) (fun _ _ h => by omega))
  have C3 := Lib.hid c3
  clear c3 k3 k2 hg3
  go_wp2_with fail
  refine (cdone_any _ _ _ _ w3 C13.out (by decide)).mono ?_
  rintro e w4 ⟨v4, rfl, o4, k4⟩
  obtain ⟨A4, cap4, hv4, bs4, -⟩ := o4.shape
  have hv4' : v4 = .slice A4 4 cap4 := hv4
  subst hv4'
  have S4 : (convert 27 9 (.slice A4 4 cap4)).run Try.prog w4 = .ok (.string ⟨#[0, 0, 0, 0]⟩) w4 := run_str bs4
  have C14 := Lib.hid (C13.out.keeps k4 (fun h => h) (fun h => h))
  have C34 := Lib.hid (C3.out.keeps k4 (fun h => h) (fun h => h))
  have K4 := Lib.hid (K3.out.trans k4 (T := fun i => w.heap.size ≤ i) (fun _ h => h) (fun _ _ h => h.elim))
  clear o4 bs4 k4 hv4
  go_wp2_with fail
  refine (cdone_any _ _ _ _ w4 C34.out (by decide)).mono ?_
  rintro e w5 ⟨v5, rfl, o5, k5⟩
  obtain ⟨A5, cap5, hv5, bs5, -⟩ := o5.shape
  have hv5' : v5 = .slice A5 4 cap5 := hv5
  subst hv5'
  have S5 : (convert 27 9 (.slice A5 4 cap5)).run Try.prog w5 = .ok (.string ⟨#[127, 255, 255, 255]⟩) w5 := run_str bs5
  have B := Lib.hid (cbit_any _ _ _ _ 1024 0 w5 (C14.out.keeps k5 (fun h => h) (fun h => h)) (by decide) (by decide) (by decide))
  rw [F2.out] at B
  have K5 := Lib.hid (K4.out.trans k5 (T := fun i => w.heap.size ≤ i) (fun _ h => h) (fun _ _ h => h.elim))
  clear o5 bs5 k5 hv5 S4
  go_wp2_with fail
  refine B.out.mono ?_
  rintro e w6 ⟨rfl, hm⟩
  obtain ⟨g6, -, -, k6⟩ := hm
  have K6 := Lib.hid (K5.out.trans k6 (T := fun i => w.heap.size ≤ i) (fun _ h => h) (fun _ _ h => by omega))
  clear k6 S5
  go_wp2
  go_ret
  exact ⟨rfl, K6.out.below (fun i hi h => by omega)⟩

theorem isSl_below {W w : World} {A : Option Addr} {n cap s : Nat} {xs : List Value} (h : IsSl W A n cap s xs) (hb : Below W.heap.size W w) : IsSl w A n cap s xs :=
  h.keeps (S := None) ⟨hb.os, hb.tape, hb.output, hb.size, fun i hi _ => hb.block i hi⟩ (fun _ _ h => h)

set_option maxRecDepth 100000 in
set_option maxHeartbeats 800000 in
theorem length16_any (A : Option Addr) (n cap : Nat) (bs : List Bool) (W : World) (hl : bs.length = n) (hs : IsSl W A n cap 1 (bs.map .bool)) :
    Calls Try.prog 7 #[.slice A n cap] W fun e w' => e = .returned (.bool true) ∧ Below W.heap.size W w' := by
  have hmx := hs.2.2.1
  have hcp := hs.2.1
  by_cases hbig : 400 < n
  · have d1 : decide (400 < (n : Int)) = true := by simp; omega
    clear hs hl
    go_enter Try.func7, Try.ntmps7
    go_wp2_with (go_at_call 37; refine (alive16_any _).mono ?_; rintro e w1 ⟨rfl, hk⟩)
    go_ret
    exact ⟨rfl, hk⟩
  have d1 : decide (400 < (n : Int)) = false := by simp; omega
  have hmk := fun w : World => run_make_blk (P := Try.prog) 55 3 (.int .i64 0) 8 Try.underlying55 (by kernel_rfl) rfl .i64 .i64 n n n rfl rfl (by omega) (by omega) w
  have HS := Lib.hid hs
  have HL := Lib.hid hl
  clear hs hl
  go_enter Try.func7, Try.ntmps7
  go_wp2_with (go_at_call 37; refine (alive16_any _).mono ?_; rintro e w1 ⟨rfl, hk⟩)
  have hz : IsSl (w1.alloc (.cells (List.replicate n (Value.int .i64 0)).toArray 3)) (some ⟨w1.heap.size, 0, none⟩) n n 1 ((List.replicate n (0 : Int)).map (.int .i64)) := by
    refine ⟨by simp, Nat.le_refl _, by omega, fun h0 => ⟨w1.heap.size, 0, rfl, by simp, fun i hi => ?_⟩⟩
    have := (Blk.new w1 (List.replicate n (Value.int .i64 0)) 3).cell (0 + i)
    rw [this]; simp
  have hs1 : IsSl (w1.alloc (.cells (List.replicate n (Value.int .i64 0)).toArray 3)) A n cap 1 (bs.map .bool) := (isSl_below HS.out hk).keeps (S := None) ((Keeps.refl _ _).alloc _) (fun _ _ h => h)
  have HB := Lib.hid (cbits_any A _ n cap n n (fun i => bs.getD i false) (fun _ => 0) bs (List.replicate n 0) _ hs1 hz HL.out (by simp) (Nat.le_refl _) (by omega) (fun _ _ => rfl) (fun i hi => by simp [List.getD, hi]))
  have FL := Lib.hid ((cS_half (fun i => bs.getD i false) (fun _ => 0) n (fun _ _ => rfl)).2.trans (wl_len n (by omega)))
  have HK := Lib.hid hk
  clear hz hs1 hk
  refine HB.out.mono ?_
  rintro e w2 ⟨v, rfl, ho, hk2⟩
  obtain ⟨A2, cap2, hv, -, -⟩ := ho.shape
  rw [FL.out] at hv
  subst hv
  have HK2 := Lib.hid (HK.out.trans (((Keeps.refl None w1).alloc (.cells (List.replicate n (Value.int .i64 0)).toArray 3)).trans hk2 (T := None) (fun _ h => h) (fun _ _ h => h) |>.below (fun _ _ h => h) |>.mono HK.out.size))
  clear ho hk2 hmk
  go_wp2
  go_ret
  exact ⟨ret_bool (by simp), HK2.out⟩

set_option maxRecDepth 100000 in
theorem CoderLength_lifted (os : Os) (started : os.Started) (H : Type) (enc : TypeId × Value → H) :
    ReturnsInHanded {} Try.checked os 7 .any (Rows.coderLengthSpec.pre6 enc Try.prog Try.f7 Rows.coderLengthRow.domain false) (Rows.coderLengthSpec.post enc Try.prog Try.f7 false true false false) := by
  refine returnsInHanded_of_change (C := Try.checked) Try.own started (by kernel_rfl) Try.func7
    (ChangeSpec.witness6 (enc := enc) (C := Try.checked) false ⟨#[], #[.slice none 0 0], []⟩ 8 (by kernel_rfl) (by kernel_rfl) (by kernel_rfl) (by kernel_rfl)) ?_
  intro W base args ds gs before hval0 hW hcnd _
  have hval : ∀ (j : Nat) t v, Try.f7.params[j]? = some t → args[j]? = some v → Value.okWide Try.prog W .any base t v := hval0
  have hW' := hW
  obtain ⟨p, q, hA0, hV, rfl, hfz, hnd⟩ := hW
  have hA : DataW.TrodAll enc Try.prog W 0 (fun _ => true) true Try.f7.params.toList args.toList ds p := hA0
  rw [Try.params7] at hA hval
  obtain ⟨v0, vs0, d0, ds0, p0, q0, hargs, rfl, rfl, h0, r0⟩ := trodAll_cons hA
  obtain ⟨rfl, rfl, rfl⟩ := trodAll_nil r0
  obtain rfl : args = #[v0] := by cases args; simp_all
  obtain ⟨rfl, rfl⟩ := trodVars_none hV
  have k0 := h0
  have lt0 : ∀ x ∈ p0, x.block < W.heap.size := by obtain ⟨m, hm⟩ := k0; exact DataW.trod_lt m _ _ _ hm
  obtain ⟨a0, len0, cap0, rfl⟩ := okWide_slice Try.underlying54 (hval 0 54 v0 rfl rfl)
  obtain ⟨z0, l0, s0⟩ := open_bools' Try.underlying54 Try.underlying4 (by kernel_rfl) h0
  clear hA0 hval0
  refine (length16_any a0 len0 cap0 z0 W l0 s0).mono fun e W' ⟨he, bel⟩ => ?_
  subst he
  exact ⟨_, rfl, _, _, _, [], _, [], hW', trodAll_mk1 (shut_bool Try.underlying4 _), (trodAll_cons_mk (Below.trod Try.laidOut (by kernel_rfl) (of_decide_eq_true (by kernel_rfl)) k0 bel lt0) trodAll_mk0), rfl, bel.frame _, fun h => by cases h⟩

set_option maxRecDepth 100000 in
theorem CoderLength_closed : joinedFacts Try.checked.prog 7 Try.f7 Rows.coderLengthSpec Rows.coderLengthRow = true := by
  unfold joinedFacts
  rw [closed_laid, closed_maps, closed_heard, closed_plain, closed_mayEnter, closed_lifts, closed_make]
  kernel_rfl

theorem CoderLength_holds : Rows.CoderLengthSaid :=
  OpenClaim.holds_of_wide 7 Try.f7 rfl rfl rfl rfl rfl rfl rfl ⟨rfl, rfl, rfl, rfl, rfl⟩ rfl rfl rfl rfl rfl (by kernel_rfl) Try.func7 CoderLength_closed
    (of_decide_eq_true (by kernel_rfl)) (by unfold Func.isWrapper; first | (rw [if_pos (by decide +kernel)]; kernel_rfl) | (rw [if_neg (by decide +kernel)]; exact ⟨rfl, rfl⟩))
    (fun os started H enc _ => CoderLength_lifted os started H enc)
#print axioms CoderLength_holds
end Go.Proofs.Yteokbedjcnfgiaa
