/- The walks of the reference's RightTokens and Plain. -/
import Derived.Test.YtggjdkkobhefeaaTkWalk2
namespace Go.Proofs.Ytggjdkkobhefeaa
open Go.RowKit

set_option maxRecDepth 100000 in
set_option maxHeartbeats 800000 in
theorem rtright_any (A : Option Addr) (m cap : Nat) (ts : List Tok) (w : World) (h : Ts w A m cap ts) : Calls Try.prog 64 #[.slice A m cap] w (Tells (.bool (rightB ts 0)) w) := by
  have hle := h.le
  have hmx := h.max
  have H := Lib.hid h
  have HL := Lib.hid h.len
  clear h
  obtain ⟨rb, hrb⟩ : ∃ x, rightB ts 0 = x := ⟨_, rfl⟩
  rw [hrb]
  have HR := Lib.hid hrb
  clear hrb
  go_enter Try.func64, Try.ntmps64
  go_wp2
  go_loopw [3, 4] (fun mv iv wr => ∃ (j : Nat) (md : Int), j ≤ m ∧ iv = .int .i64 j ∧ mv = .int .i64 md ∧ 0 ≤ md ∧ md ≤ 8192 ∧ rightB (ts.drop j) md = rb ∧ Keeps None w wr) (fun _ iv _ => m - (intOf iv).toNat)
  case atStart => exact ⟨0, 0, Nat.zero_le _, rfl, rfl, by decide, by decide, by rw [List.drop_zero]; exact HR.out, Keeps.refl _ _⟩
  case round =>
    obtain ⟨j, md, hj, rfl, rfl, hm0, hm1, hr, hk⟩ := hrel
    have HK := Lib.hid hk
    have RR := Lib.hid hr
    obtain ⟨wv, rfl⟩ : ∃ x, x = wr := ⟨_, rfl⟩
    clear hk hr
    by_cases hlt : j < m
    · obtain ⟨bl, off, t, rfl, -, htd, hw, c1, c2, c3⟩ := (H.out.later HK.out).get hlt
      obtain ⟨n, d, b⟩ := t
      simp only [] at c1 c2 c3
      have TD := Lib.hid htd
      have RC : Hid (rb = (mayT ⟨n, d, b⟩ md && decide (longT ⟨n, d, b⟩ ≤ 8192 - md) && rightB (ts.drop (j + 1)) (md + longT ⟨n, d, b⟩))) := by show _ = _; rw [← RR.out, TD.out]; rfl
      have KA : Hid (Keeps None w (wv.alloc (.cells #[.int .i64 n, .int .i64 d, .int .u8 b] 43))) := HK.out.alloc _
      clear htd hw
      by_cases h0 : n = 0
      · subst h0
        by_cases h1 : d = 0
        · subst h1
          have RC2 : Hid (rb = (decide (1 ≤ 8192 - md) && rightB (ts.drop (j + 1)) (md + 1))) := by show _ = _; rw [RC.out, show mayT _ md = true from (by unfold mayT; rw [if_pos rfl]; rfl), show longT _ = 1 from rfl, Bool.true_and]
          obtain ⟨m2, hm2⟩ : ∃ x, md + 1 = x := ⟨_, rfl⟩
          have i2 : IntKind.i64.wrap (md + 1) = m2 := by rw [hm2]; exact IntWalk.i64_in _ (by omega)
          rw [hm2] at RC2
          by_cases hg : 8192 < m2
          · have d1 : decide (8192 < m2) = true := decide_eq_true hg
            have RF : Hid (rb = false) := by show _ = _; rw [RC2.out, decide_eq_false (show ¬ 1 ≤ 8192 - md by omega)]; rfl
            have m20 : 0 ≤ m2 ∧ m2 ≤ 100000 := by omega
            clear hm2 RC RC2 RR TD
            go_wp2
            go_ret
            exact ⟨ret_bool RF.out.symm, KA.out⟩
          · have d1 : decide (8192 < m2) = false := decide_eq_false hg
            have RF : Hid (rightB (ts.drop (j + 1)) m2 = rb) := by show _ = _; rw [RC2.out, decide_eq_true (show 1 ≤ 8192 - md by omega)]; simp
            have m20 : 0 ≤ m2 ∧ m2 ≤ 8192 := by omega
            clear hm2 RC RC2 RR TD
            go_wp2
            go_roundw
            case rel => exact ⟨j + 1, m2, hlt, by go_num, rfl, m20.1, m20.2, RF.out, KA.out⟩
            case measure => simp [intOf]; omega
        · have e1 : (d != 0) = true := by simp [h1]
          have e2 : (d == 0) = false := by simp [h1]
          have RF : Hid (rb = false) := by show _ = _; rw [RC.out, show mayT _ md = false from (by unfold mayT; rw [if_pos rfl]; exact decide_eq_false h1)]; rfl
          clear RC RR TD
          go_wp2
          go_ret
          exact ⟨ret_bool RF.out.symm, KA.out⟩
      · have e0 : (n == 0) = false := by simpa using h0
        by_cases q1 : n < 2
        · have e1 : decide (n < 2) = true := decide_eq_true q1
          have RF : Hid (rb = false) := by show _ = _; rw [RC.out, show mayT _ md = false from (by unfold mayT; rw [if_neg h0]; simp; omega)]; rfl
          clear RC RR TD
          go_wp2
          go_ret
          exact ⟨ret_bool RF.out.symm, KA.out⟩
        have e1 : decide (n < 2) = false := decide_eq_false q1
        by_cases q2 : 257 < n
        · have e2 : decide (257 < n) = true := decide_eq_true q2
          have RF : Hid (rb = false) := by show _ = _; rw [RC.out, show mayT _ md = false from (by unfold mayT; rw [if_neg h0]; simp; omega)]; rfl
          clear RC RR TD
          go_wp2
          go_ret
          exact ⟨ret_bool RF.out.symm, KA.out⟩
        have e2 : decide (257 < n) = false := decide_eq_false q2
        by_cases q3 : b = 0
        · subst q3
          by_cases q4 : d < 1
          · have e4 : decide (d < 1) = true := decide_eq_true q4
            have RF : Hid (rb = false) := by show _ = _; rw [RC.out, show mayT _ md = false from (by unfold mayT; rw [if_neg h0]; simp; omega)]; rfl
            clear RC RR TD
            go_wp2
            go_ret
            exact ⟨ret_bool RF.out.symm, KA.out⟩
          have e4 : decide (d < 1) = false := decide_eq_false q4
          by_cases q5 : 4096 < d
          · have e5 : decide (4096 < d) = true := decide_eq_true q5
            have RF : Hid (rb = false) := by show _ = _; rw [RC.out, show mayT _ md = false from (by unfold mayT; rw [if_neg h0]; simp; omega)]; rfl
            clear RC RR TD
            go_wp2
            go_ret
            exact ⟨ret_bool RF.out.symm, KA.out⟩
          have e5 : decide (4096 < d) = false := decide_eq_false q5
          by_cases q6 : md < d
          · have e6 : decide (md < d) = true := decide_eq_true q6
            have RF : Hid (rb = false) := by show _ = _; rw [RC.out, show mayT _ md = false from (by unfold mayT; rw [if_neg h0]; simp; omega)]; rfl
            clear RC RR TD
            go_wp2
            go_ret
            exact ⟨ret_bool RF.out.symm, KA.out⟩
          have e6 : decide (md < d) = false := decide_eq_false q6
          have RC2 : Hid (rb = (decide (n ≤ 8192 - md) && rightB (ts.drop (j + 1)) (md + n))) := by show _ = _; rw [RC.out, show mayT _ md = true from (by unfold mayT; rw [if_neg h0]; simp; omega), show longT _ = n from (show longT ⟨n, d, 0⟩ = n from if_neg h0), Bool.true_and]
          obtain ⟨m2, hm2⟩ : ∃ x, md + n = x := ⟨_, rfl⟩
          have i2 : IntKind.i64.wrap (md + n) = m2 := by rw [hm2]; exact IntWalk.i64_in _ (by omega)
          rw [hm2] at RC2
          by_cases hg : 8192 < m2
          · have d1 : decide (8192 < m2) = true := decide_eq_true hg
            have RF : Hid (rb = false) := by show _ = _; rw [RC2.out, decide_eq_false (show ¬ n ≤ 8192 - md by omega)]; rfl
            have m20 : 0 ≤ m2 ∧ m2 ≤ 100000 := by omega
            clear hm2 RC RC2 RR TD
            go_wp2
            go_ret
            exact ⟨ret_bool RF.out.symm, KA.out⟩
          · have d1 : decide (8192 < m2) = false := decide_eq_false hg
            have RF : Hid (rightB (ts.drop (j + 1)) m2 = rb) := by show _ = _; rw [RC2.out, decide_eq_true (show n ≤ 8192 - md by omega)]; simp
            have m20 : 0 ≤ m2 ∧ m2 ≤ 8192 := by omega
            clear hm2 RC RC2 RR TD
            go_wp2
            go_roundw
            case rel => exact ⟨j + 1, m2, hlt, by go_num, rfl, m20.1, m20.2, RF.out, KA.out⟩
            case measure => simp [intOf]; omega
        · have e3 : (b != 0) = true := by simp [q3]
          have e4 : (b == 0) = false := by simp [q3]
          have RF : Hid (rb = false) := by show _ = _; rw [RC.out, show mayT _ md = false from (by unfold mayT; rw [if_neg h0]; simp [q3])]; rfl
          clear RC RR TD
          go_wp2
          go_ret
          exact ⟨ret_bool RF.out.symm, KA.out⟩
    · obtain rfl : j = m := by omega
      have RF : Hid (rb = true) := by show _ = _; rw [← RR.out, List.drop_of_length_le (by rw [HL.out]; exact Nat.le_refl _)]; rfl
      go_wp2
      go_ret
      exact ⟨ret_bool RF.out.symm, HK.out⟩
theorem Ts.cells {w w' : World} {bl off m cap : Nat} {ts : List Tok} (h : Ts w (some ⟨bl, off, none⟩) m cap ts) (hk : Keeps None w w') {j : Nat} {t : Tok} (ht : ts[j]? = some t) :
    w'.cell? ⟨bl, off + j * 3, none⟩ = some (.int .i64 t.n) ∧ w'.cell? ⟨bl, off + j * 3 + 1, none⟩ = some (.int .i64 t.d) ∧ w'.cell? ⟨bl, off + j * 3 + 2, none⟩ = some (.int .u8 t.b) := by
  have hj : j < ts.length := (List.getElem?_eq_some_iff.1 ht).1
  have hl := h.len
  obtain ⟨b', off', e, _, hc⟩ := (h.later hk).at_ (by omega)
  cases e
  exact hc j t ht
set_option maxRecDepth 100000 in
set_option maxHeartbeats 1600000 in
theorem rtplain_any (A : Option Addr) (m cap : Nat) (ts : List Tok) (w : World) (h : Ts w A m cap ts) : Calls Try.prog 65 #[.slice A m cap] w (Cloned w (plainL ts)) := by
  have hle := h.le
  have hmx := h.max
  have H := Lib.hid h
  have HL := Lib.hid h.len
  have RT := Lib.hid (rtright_any A m cap ts w h)
  clear h
  cases hr : rightB ts 0 with
  | false =>
    rw [hr] at RT
    have PL := Lib.hid (right_no hr)
    clear hr
    go_enter Try.func65, Try.ntmps65
    go_wp2_with fail
    refine RT.out.mono ?_
    rintro e w2 ⟨rfl, k2⟩
    have K2 := Lib.hid k2
    clear k2
    go_wp2
    go_ret
    rw [PL.out]
    exact ⟨_, rfl, Own.nil _ _, K2.out⟩
  | true =>
  rw [hr] at RT
  rw [right_out hr]
  obtain ⟨pl, hpl⟩ : ∃ x, plainT ts [] = x := ⟨_, rfl⟩
  rw [hpl]
  have HP := Lib.hid hpl
  have HR := Lib.hid hr
  clear hpl hr
  go_enter Try.func65, Try.ntmps65
  go_wp2_with fail
  refine RT.out.mono ?_
  rintro e w2 ⟨rfl, k2⟩
  have K2 := Lib.hid k2
  clear k2 RT
  go_wp2
  go_loopw [3, 4] (fun ov iv wr => ∃ (j : Nat) (out : List Int), j ≤ m ∧ iv = .int .i64 j ∧ Own wr w.heap.size ov out ∧ plainT (ts.drop j) out = pl ∧ rightB (ts.drop j) out.length = true ∧ out.length ≤ 8192 ∧ Keeps None w wr) (fun _ iv _ => m - (intOf iv).toNat)
  case atStart => exact ⟨0, [], Nat.zero_le _, rfl, Own.nil _ _, by rw [List.drop_zero]; exact HP.out, by rw [List.drop_zero]; exact HR.out, by decide, K2.out⟩
  case round =>
    obtain ⟨j, out, hj, rfl, ho, hp, hr, hl, hk⟩ := hrel
    have HK := Lib.hid hk
    have PP := Lib.hid hp
    have RR := Lib.hid hr
    obtain ⟨A0, cap0, rfl, -, -⟩ := ho.shape
    obtain ⟨wv, rfl⟩ : ∃ x, x = wr := ⟨_, rfl⟩
    have OO := Lib.hid ho
    obtain ⟨lo, hlo⟩ : ∃ x, out.length = x := ⟨_, rfl⟩
    rw [hlo] at hl OO ⊢
    have LO := Lib.hid hlo
    clear hk hp hr K2 ho hlo
    by_cases hlt : j < m
    · obtain ⟨bl, off, t, rfl, hti, htd, hw, c1, c2, c3⟩ := (H.out.later HK.out).get hlt
      have YC := Lib.hid (fun w' (hk : Keeps None w w') => H.out.cells hk hti)
      have RR2 := Lib.hid (htd ▸ RR.out)
      have PP2 := Lib.hid (htd ▸ PP.out)
      obtain ⟨r1, r2, r3⟩ := rightB_cons RR2.out
      rw [LO.out] at r1 r2 r3
      have WF := Lib.hid hw
      have KA := Lib.hid HK.out
      have OA := Lib.hid OO.out
      have R3 : Hid (rightB (ts.drop (j + 1)) (stepT t out).length = true) := by show _ = _; rw [stepT_len r1, LO.out]; exact r3
      have SL : Hid ((stepT t out).length ≤ 8192) := by show _ ≤ _; have := stepT_len r1 out; rw [LO.out] at this; omega
      have PP3 : Hid (plainT (ts.drop (j + 1)) (stepT t out) = pl) := PP2.out
      clear hti htd hw RR RR2 PP PP2 r2 r3
      by_cases h0 : t.n = 0
      · have ST : Hid (stepT t out = out ++ [t.b]) := if_pos h0
        have b0 := WF.out.b0
        have b1 := WF.out.b1
        have d0 := mayT_lit r1 h0
        rw [ST.out] at R3 SL PP3
        rw [h0] at c1
        clear ST r1 OO HK d0
        obtain ⟨tn, td, tb⟩ := t
        simp only [] at c1 c2 c3 R3 SL PP3 b0 b1 h0 YC
        subst h0
        have ZB : Hid (0 ≤ tb ∧ tb ≤ 255) := ⟨b0, b1⟩
        go_wp2_with (at_builtin; refine Hid.out ?_)
        refine Lib.hid ?_
        refine wpList_append_bs (OA.out.alloc (.cells #[.int .u8 tb] 5)) (Bs.oneAt _ _ rfl tb ZB.out) (by rw [LO.out]; omega) (KA.out.alloc (.cells #[.int .u8 tb] 5)).size rfl rfl rfl rfl rfl ?_
        intro v4 w4 ho4 hk4
        have OAA := OA.out.alloc (.cells #[.int .u8 tb] 5)
        have KB := KA.out.alloc (.cells #[.int .u8 tb] 5)
        have K4 : Hid (Keeps None w w4) := KB.trans hk4 (fun _ h => h) (fun i hi e => (OAA.notBelow hi e).elim)
        have O4 := Lib.hid ho4
        have x0 := (YC.out _ K4.out).1
        clear ho4 hk4 OAA KB KA OA c1 c2 c3
        go_wp2
        go_loopw [3, 5] (fun ov kv wr' => ov = v4 ∧ kv = .int .i64 (0 : Int) ∧ wr' = w4) (fun _ _ _ => 0)
        case atStart => exact ⟨rfl, rfl, rfl⟩
        case round =>
          obtain ⟨rfl, rfl, rfl⟩ := hrel
          go_wp2
          go_roundw
          case rel => exact ⟨j + 1, _, hlt, by go_num, O4.out, PP3.out, R3.out, SL.out, K4.out⟩
          case measure => simp [intOf]; omega
      · have ST : Hid (stepT t out = copyT t.d.toNat t.n.toNat out) := if_neg h0
        have mc := mayT_copy r1 h0
        obtain ⟨tn, td, tb⟩ := t
        simp only [] at c1 c2 c3 R3 SL PP3 mc h0 ST YC
        obtain ⟨nn, rfl⟩ : ∃ x : Nat, tn = x := ⟨tn.toNat, by omega⟩
        obtain ⟨dn, rfl⟩ : ∃ x : Nat, td = x := ⟨td.toNat, by omega⟩
        simp only [Int.toNat_natCast] at ST
        rw [ST.out] at R3 SL PP3
        have SL2 : lo + nn ≤ 8192 := by have := SL.out; rw [copyT_len, LO.out] at this; exact this
        have dn1 : 1 ≤ dn := by omega
        have dnl : dn ≤ lo := by omega
        have nn2 : 2 ≤ nn := by omega
        have hnz : ((nn : Int) == 0) = false := by simp; omega
        have OBY := Lib.hid OO.out.2
        clear r1 mc h0 ST
        go_wp2
        clear OO HK c1 c2 c3
        go_loopw [3, 5] (fun ov kv wr' => ∃ (k : Nat), k ≤ nn ∧ kv = .int .i64 k ∧ Own wr' w.heap.size ov (copyT dn k out) ∧ Keeps None w wr') (fun _ kv _ => nn - (intOf kv).toNat)
        case atStart => exact ⟨0, Nat.zero_le _, rfl, OA.out, KA.out⟩
        case round =>
          obtain ⟨k, hkn, rfl, ho, hk⟩ := hrel
          obtain ⟨wi, rfl⟩ : ∃ x, x = wr := ⟨_, rfl⟩
          have HK := Lib.hid hk
          have lk : (copyT dn k out).length = lo + k := by rw [copyT_len, LO.out]
          obtain ⟨ok, hok⟩ : ∃ x, copyT dn k out = x := ⟨_, rfl⟩
          have SC : Hid (copyT dn (k + 1) out = ok ++ [ok.getD (lo + k - dn) 0]) := by show _ = _; rw [copyT_succ, lk, hok]
          have HOK := Lib.hid hok
          rw [hok] at ho lk
          have LK := Lib.hid lk
          obtain ⟨A4, cap4, rfl, -, -⟩ := ho.shape
          rw [lk] at ho ⊢
          have O4 := Lib.hid ho
          clear hk KA OA hok
          by_cases hki : k < nn
          · obtain ⟨p, hp⟩ : ∃ x, lo + k - dn = x := ⟨_, rfl⟩
            obtain ⟨l4, hl4⟩ : ∃ x, lo + k = x := ⟨_, rfl⟩
            obtain ⟨g, rfl, hg1, hg2, -, hg3, hg4, hc, hf⟩ := ho.at_ (k := p) (by omega)
            have hzb := byte_getD ho.2 p
            rw [hp] at SC
            rw [hl4] at O4 LK hg3 hp ⊢
            generalize ok.getD p 0 = z at *
            have ZB := Lib.hid hzb
            have z0 := hzb.1
            have z1 := hzb.2
            have i1 : IntKind.i64.wrap ((l4 : Int) - dn) = p := by rw [show (l4 : Int) - dn = (p : Int) by omega]; exact wrap_nat _ (by omega)
            have l49 : l4 ≤ 8192 := by omega
            have pl4 : p < l4 := by omega
            have x0 := (YC.out _ HK.out).1
            have x1 := (YC.out _ HK.out).2.1
            have KI : Hid (Keeps None w (wi.alloc (.cells #[.int .u8 z] 5))) := HK.out.alloc _
            clear ho hzb lk hp hl4 hg1 hg2 hg4
            go_wp2_with (at_builtin; refine Hid.out ?_)
            refine Lib.hid ?_
            refine wpList_append_bs (O4.out.alloc (.cells #[.int .u8 z] 5)) (Bs.oneAt _ _ rfl z ZB.out) (by rw [LK.out]; omega) KI.out.size rfl rfl rfl rfl rfl ?_
            intro v5 w5 ho5 hk5
            have OAA := O4.out.alloc (.cells #[.int .u8 z] 5)
            have K5 : Hid (Keeps None w w5) := KI.out.trans hk5 (fun _ h => h) (fun i hi e => (OAA.notBelow hi e).elim)
            have O5 := Lib.hid ho5
            rw [← SC.out] at O5
            clear ho5 hk5 OAA KI hc hf x0 x1
            go_wp2
            go_roundw
            case rel => exact ⟨k + 1, hki, by go_num, O5.out, K5.out⟩
            case measure => simp [intOf]; omega
          · obtain rfl : k = nn := by omega
            rw [← HOK.out] at O4
            have x0 := (YC.out _ HK.out).1
            have OF : Hid (Own wi w.heap.size (.slice A4 (lo + k) cap4) (copyT dn k out)) := O4.out
            clear ho lk
            go_wp2
            go_roundw
            case rel => exact ⟨j + 1, _, hlt, by go_num, OF.out, PP3.out, R3.out, SL.out, HK.out⟩
            case measure => simp [intOf]; omega
    · obtain rfl : j = m := by omega
      have RF : Hid (out = pl) := by show _ = _; rw [← PP.out, List.drop_of_length_le (by rw [HL.out]; exact Nat.le_refl _)]; rfl
      go_wp2
      go_ret
      exact ⟨_, rfl, RF.out ▸ OO.out, HK.out⟩
end Go.Proofs.Ytggjdkkobhefeaa
