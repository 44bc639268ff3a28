/- The walks of token.May, Right, Plain. -/
import Derived.Test.YtggjdkkobhefeaaTkPlain
namespace Go.Proofs.Ytggjdkkobhefeaa
open Go.RowKit

def tagg (t : Tok) : Value := .agg #[.int .i64 t.n, .int .i64 t.d, .int .u8 t.b]
set_option maxRecDepth 100000 in
theorem tkmay_any (n d b made : Int) (w : World) : Calls Try.prog 67 #[.agg #[.int .i64 n, .int .i64 d, .int .u8 b], .int .i64 made] w (Tells (.bool (mayT ⟨n, d, b⟩ made)) w) := by
  have K0 : Hid (Keeps None w (w.alloc (.cells #[.int .i64 n, .int .i64 d, .int .u8 b] 43))) := (Keeps.refl None w).alloc _
  have HM0 : mayT ⟨n, d, b⟩ made = if n = 0 then decide (d = 0) else decide (b = 0) && decide (2 ≤ n) && decide (n ≤ 257) && decide (1 ≤ d) && decide (d ≤ min 4096 made) := rfl
  by_cases h0 : n = 0
  · have HM : Hid (mayT ⟨n, d, b⟩ made = decide (d = 0)) := by show _ = _; rw [HM0, if_pos h0]
    clear HM0
    subst h0
    by_cases h1 : d = 0
    · subst h1
      go_enter Try.func67, Try.ntmps67
      go_wp2
      go_ret
      exact ⟨ret_bool (by rw [HM.out] <;> simp), K0.out⟩
    · have e1 : (d == 0) = false := by simpa using h1
      have e2 : decide (d = 0) = false := decide_eq_false h1
      rw [e2] at HM
      go_enter Try.func67, Try.ntmps67
      go_wp2
      go_ret
      exact ⟨ret_bool (by rw [HM.out] <;> simp), K0.out⟩
  · have HM : Hid (mayT ⟨n, d, b⟩ made = (decide (b = 0) && decide (2 ≤ n) && decide (n ≤ 257) && decide (1 ≤ d) && decide (d ≤ min 4096 made))) := by show _ = _; rw [HM0, if_neg h0]
    clear HM0
    have e0 : (n == 0) = false := by simpa using h0
    have e9 : decide (n = 0) = false := decide_eq_false h0
    by_cases h1 : b = 0
    · subst h1
      by_cases h2 : 2 ≤ n
      · have e2 : decide (2 ≤ n) = true := decide_eq_true h2
        by_cases h3 : n ≤ 257
        · have e3 : decide (n ≤ 257) = true := decide_eq_true h3
          by_cases h4 : 1 ≤ d
          · have e4 : decide (1 ≤ d) = true := decide_eq_true h4
            obtain ⟨mn, hmn⟩ : ∃ x, min 4096 made = x := ⟨_, rfl⟩
            rw [e2, e3, e4, hmn] at HM
            have hm2 : (if made < 4096 then made else 4096) = mn := by rw [← hmn]; omega
            clear hmn h2 h3 h4 h0
            go_enter Try.func67, Try.ntmps67
            go_wp2
            go_ret
            exact ⟨ret_bool (by rw [HM.out] <;> simp), K0.out⟩
          · have e4 : decide (1 ≤ d) = false := decide_eq_false h4
            rw [e4] at HM
            clear h0
            go_enter Try.func67, Try.ntmps67
            go_wp2
            go_ret
            exact ⟨ret_bool (by rw [HM.out] <;> simp), K0.out⟩
        · have e3 : decide (n ≤ 257) = false := decide_eq_false h3
          rw [e3] at HM
          clear h0
          go_enter Try.func67, Try.ntmps67
          go_wp2
          go_ret
          exact ⟨ret_bool (by rw [HM.out] <;> simp), K0.out⟩
      · have e2 : decide (2 ≤ n) = false := decide_eq_false h2
        rw [e2] at HM
        clear h0
        go_enter Try.func67, Try.ntmps67
        go_wp2
        go_ret
        exact ⟨ret_bool (by rw [HM.out] <;> simp), K0.out⟩
    · have e1 : (b == 0) = false := by simpa using h1
      have e2 : decide (b = 0) = false := decide_eq_false h1
      rw [e2] at HM
      clear h0
      go_enter Try.func67, Try.ntmps67
      go_wp2
      go_ret
      exact ⟨ret_bool (by rw [HM.out] <;> simp), K0.out⟩
theorem tklong2_any (n d b : Int) (w : World) : Calls Try.prog 68 #[.agg #[.int .i64 n, .int .i64 d, .int .u8 b]] w (Tells (.int .i64 (longT ⟨n, d, b⟩)) w) := tklong_any n d b w

set_option maxRecDepth 100000 in
set_option maxHeartbeats 800000 in
theorem tkright_any (A : Option Addr) (m cap : Nat) (ts : List Tok) (w : World) (h : Ts w A m cap ts) : Calls Try.prog 29 #[.slice A m cap] w (Tells (.bool (rightB ts 0)) w) := by
  have hle := h.le
  have hmx := h.max
  have H := Lib.hid h
  have HL := Lib.hid h.len
  clear h
  obtain ⟨rb, hrb⟩ : ∃ x, rightB ts 0 = x := ⟨_, rfl⟩
  rw [hrb]
  have HR := Lib.hid hrb
  clear hrb
  go_enter Try.func29, Try.ntmps29
  go_wp2
  go_loopw [3, 8] (fun mv iv wr => ∃ (j : Nat) (md : Int), j ≤ m ∧ iv = .int .i64 j ∧ mv = .int .i64 md ∧ 0 ≤ md ∧ md ≤ 8192 ∧ rightB (ts.drop j) md = rb ∧ Keeps None w wr) (fun _ iv _ => m - (intOf iv).toNat)
  case atStart => exact ⟨0, 0, Nat.zero_le _, rfl, rfl, by decide, by decide, by rw [List.drop_zero]; exact HR.out, Keeps.refl _ _⟩
  case round =>
    obtain ⟨j, md, hj, rfl, rfl, hm0, hm1, hr, hk⟩ := hrel
    have HK := Lib.hid hk
    have RR := Lib.hid hr
    obtain ⟨wv, rfl⟩ : ∃ x, x = wr := ⟨_, rfl⟩
    clear hk hr
    by_cases hlt : j < m
    · obtain ⟨bl, off, t, rfl, -, htd, hw, c1, c2, c3⟩ := (H.out.later HK.out).get hlt
      obtain ⟨n, d, b⟩ := t
      simp only [] at c1 c2 c3
      have TD := Lib.hid htd
      have MAY := Lib.hid (fun w => tkmay_any n d b md w)
      have LONG := Lib.hid (fun w => tklong2_any n d b w)
      have RC : Hid (rb = (mayT ⟨n, d, b⟩ md && decide (longT ⟨n, d, b⟩ ≤ 8192 - md) && rightB (ts.drop (j + 1)) (md + longT ⟨n, d, b⟩))) := by show _ = _; rw [← RR.out, TD.out]; rfl
      have KA : Hid (Keeps None w (wv.alloc (.cells #[.int .i64 n, .int .i64 d, .int .u8 b] 43))) := HK.out.alloc _
      have BA := Lib.hid (Blk.new wv [.int .i64 n, .int .i64 d, .int .u8 b] 43)
      have LP := Lib.hid (fun h => longT_pos (t := ⟨n, d, b⟩) (made := md) h)
      clear htd hw
      cases hmay : mayT ⟨n, d, b⟩ md with
      | false =>
        rw [hmay] at MAY RC
        have RF : Hid (rb = false) := by show _ = _; rw [RC.out]; rfl
        clear hmay
        generalize longT ⟨n, d, b⟩ = lg at *
        go_wp2_with fail
        refine (MAY.out _).mono ?_
        rintro e w2 ⟨rfl, k2⟩
        have K2 := Lib.hid (KA.out.trans k2 (T := None) (fun _ h => h) (fun _ _ h => h))
        clear k2
        go_wp2
        go_ret
        exact ⟨ret_bool RF.out.symm, K2.out⟩
      | true =>
        have lp := LP.out hmay
        rw [hmay] at MAY RC
        clear hmay LP
        generalize longT ⟨n, d, b⟩ = lg at *
        obtain ⟨rm, hrm⟩ : ∃ x, 8192 - md = x := ⟨_, rfl⟩
        have i1 : IntKind.i64.wrap (8192 - md) = rm := by rw [hrm]; exact IntWalk.i64_in _ (by omega)
        obtain ⟨m2, hm2⟩ : ∃ x, md + lg = x := ⟨_, rfl⟩
        have i2 : IntKind.i64.wrap (md + lg) = m2 := by rw [hm2]; exact IntWalk.i64_in _ (by omega)
        rw [hrm, hm2] at RC
        by_cases hg : rm < lg
        · have d1 : decide (rm < lg) = true := decide_eq_true hg
          have RF : Hid (rb = false) := by show _ = _; rw [RC.out, decide_eq_false (show ¬ lg ≤ rm by omega)]; rfl
          clear hrm hm2 i2
          go_wp2_with fail
          refine (MAY.out _).mono ?_
          rintro e w2 ⟨rfl, k2⟩
          have K2 := Lib.hid (KA.out.trans k2 (T := None) (fun _ h => h) (fun _ _ h => h))
          have B2 := Lib.hid (k2.blk BA.out (fun h => h))
          have x0 := B2.out.cellD 0 _ rfl
          have x1 := B2.out.cellD 1 _ rfl
          have x2 := B2.out.cellD 2 _ rfl
          clear k2
          go_wp2_with fail
          refine (LONG.out _).mono ?_
          rintro e w3 ⟨rfl, k3⟩
          have K3 := Lib.hid (K2.out.trans k3 (T := None) (fun _ h => h) (fun _ _ h => h))
          clear k3
          go_wp2
          go_ret
          exact ⟨ret_bool RF.out.symm, K3.out⟩
        · have d1 : decide (rm < lg) = false := decide_eq_false hg
          have RF : Hid (rightB (ts.drop (j + 1)) m2 = rb) := by show _ = _; rw [RC.out, decide_eq_true (show lg ≤ rm by omega)]; simp
          have m20 : 0 ≤ m2 ∧ m2 ≤ 8192 := by omega
          clear hrm hm2
          go_wp2_with fail
          refine (MAY.out _).mono ?_
          rintro e w2 ⟨rfl, k2⟩
          have K2 := Lib.hid (KA.out.trans k2 (T := None) (fun _ h => h) (fun _ _ h => h))
          have B2 := Lib.hid (k2.blk BA.out (fun h => h))
          have x0 := B2.out.cellD 0 _ rfl
          have x1 := B2.out.cellD 1 _ rfl
          have x2 := B2.out.cellD 2 _ rfl
          clear k2
          go_wp2_with fail
          refine (LONG.out _).mono ?_
          rintro e w3 ⟨rfl, k3⟩
          have K3 := Lib.hid (K2.out.trans k3 (T := None) (fun _ h => h) (fun _ _ h => h))
          have B3 := Lib.hid (k3.blk B2.out (fun h => h))
          clear k3 x0 x1 x2
          have x0 := B3.out.cellD 0 _ rfl
          have x1 := B3.out.cellD 1 _ rfl
          have x2 := B3.out.cellD 2 _ rfl
          go_wp2_with fail
          refine (LONG.out _).mono ?_
          rintro e w4 ⟨rfl, k4⟩
          have K4 := Lib.hid (K3.out.trans k4 (T := None) (fun _ h => h) (fun _ _ h => h))
          clear k4 x0 x1 x2
          go_wp2
          go_roundw
          case rel => exact ⟨j + 1, m2, hlt, by go_num, rfl, m20.1, m20.2, RF.out, K4.out⟩
          case measure => simp [intOf]; omega
    · obtain rfl : j = m := by omega
      have RF : Hid (rb = true) := by show _ = _; rw [← RR.out, List.drop_of_length_le (by rw [HL.out]; exact Nat.le_refl _)]; rfl
      go_wp2
      go_ret
      exact ⟨ret_bool RF.out.symm, HK.out⟩
end Go.Proofs.Ytggjdkkobhefeaa
