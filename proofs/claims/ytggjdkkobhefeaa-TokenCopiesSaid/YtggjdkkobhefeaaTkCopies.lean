/-
  For every head, length and distance, the law TokenCopies returns true: what a copy makes that reaches into itself. No condition.
-/
import Derived.Test.YtggjdkkobhefeaaTkOnly
import Derived.Test.YtggjdkkobhefeaaTkCopyL
namespace Go.Proofs.Ytggjdkkobhefeaa
open Go.RowKit Go.ChangeShapes Go.WideShapes Go.ChangeAt

theorem lit_snoc (zs : List Int) (i : Nat) (x : Int) (hi : i < zs.length) (hx : zs.getD i 0 = x) : litL (zs.take (i + 1)) = litL (zs.take i) ++ [⟨0, 0, x⟩] := by
  have e : zs.take (i + 1) = zs.take i ++ [x] := by rw [← hx, getD_get 0 hi, List.take_add_one, List.getElem?_eq_getElem hi]; rfl
  rw [e]; simp [litL]
theorem lit_len (zs : List Int) : (litL zs).length = zs.length := by simp [litL]
theorem lit_wf (zs : List Int) (n d : Int) (hn : -9223372036854775808 ≤ n ∧ n ≤ 9223372036854775807) (hd : -9223372036854775808 ≤ d ∧ d ≤ 9223372036854775807) (hz : ∀ z ∈ zs, 0 ≤ z ∧ z ≤ 255) : ∀ t ∈ litL zs ++ [(⟨n, d, 0⟩ : Tok)], TokWf t := by
  intro t ht
  rcases List.mem_append.1 ht with h | h
  · obtain ⟨z, hz2, rfl⟩ := List.mem_map.1 h
    have := hz z hz2
    exact ⟨show (-9223372036854775808 : Int) ≤ 0 by decide, show (0 : Int) ≤ 9223372036854775807 by decide, show (-9223372036854775808 : Int) ≤ 0 by decide, show (0 : Int) ≤ 9223372036854775807 by decide, this.1, this.2⟩
  · rw [List.mem_singleton.1 h]
    exact ⟨hn.1, hn.2, hd.1, hd.2, show (0 : Int) ≤ 0 by decide, show (0 : Int) ≤ 255 by decide⟩
set_option maxRecDepth 100000 in
set_option maxHeartbeats 3200000 in
theorem copies19_any (A : Option Addr) (L cap : Nat) (zs : List Int) (n d : Int) (W : World) (h : Bs W A L cap zs) (hn : -9223372036854775808 ≤ n ∧ n ≤ 9223372036854775807) (hd : -9223372036854775808 ≤ d ∧ d ≤ 9223372036854775807) :
    Calls Try.prog 9 #[.slice A L cap, .int .i64 n, .int .i64 d] W fun e w' => e = .returned (.bool true) ∧ Below W.heap.size W w' := by
  have hle := h.le
  have hmx := h.max
  have HL := Lib.hid h.len
  have HB := Lib.hid h
  clear h
  by_cases g0 : 300 < L
  · have d0 : decide (300 < (L : Int)) = true := decide_eq_true (by omega)
    go_enter Try.func9, Try.ntmps9
    go_wp2_with fail
    refine (alive19_any W).mono ?_
    rintro e w1 ⟨rfl, k1⟩
    go_wp2
    go_ret
    exact ⟨rfl, k1.below (fun _ _ h => h)⟩
  have d0 : decide (300 < (L : Int)) = false := decide_eq_false (by omega)
  have RC : Hid (rightB (litL zs ++ [(⟨n, d, 0⟩ : Tok)]) 0 = mayC n d L) := by show _ = _; have := copies_right zs n d (by have := HL.out; omega); rw [HL.out] at this; exact this
  have WF := Lib.hid (lit_wf zs n d hn hd HB.out.byte)
  obtain ⟨hn1, hn2⟩ := hn
  obtain ⟨hd1, hd2⟩ := hd
  go_enter Try.func9, Try.ntmps9
  go_wp2_with fail
  refine (alive19_any W).mono ?_
  rintro e w1 ⟨rfl, k1⟩
  have K1 := Lib.hid k1
  clear k1
  go_wp2
  go_loopw [8, 9] (fun lv iv wr => ∃ i : Nat, i ≤ L ∧ iv = .int .i64 i ∧ OwnT wr W.heap.size lv (litL (zs.take i)) ∧ Keeps None W wr) (fun _ iv _ => L - (intOf iv).toNat)
  case atStart => exact ⟨0, Nat.zero_le _, rfl, OwnT.nil _ _, K1.out⟩
  case round =>
    obtain ⟨i, hi, rfl, ho, hk⟩ := hrel
    have HK := Lib.hid hk
    have HO := Lib.hid ho
    clear ho hk K1
    by_cases hlt : i < L
    · obtain ⟨bl, of1, x1, rfl, hx1, hx1a, hx1b, hc1⟩ := (HB.out.keeps HK.out (fun _ _ _ _ _ h => h)).get hlt
      have SN := Lib.hid (lit_snoc zs i x1 (by rw [HL.out]; exact hlt) hx1)
      have LE : Hid ((litL (zs.take i)).length ≤ 1000000) := by show _ ≤ _; rw [lit_len, List.length_take]; omega
      clear hx1
      go_wp2_with (at_builtin; refine Hid.out ?_)
      refine Lib.hid ?_
      refine wpList_append_tok (ts := litL (zs.take i)) (B := W.heap.size) (T := 43) ⟨0, 0, x1⟩ (HO.out.keeps ((Keeps.refl None _).alloc _) (fun _ _ h => h)) (Blk.new wr (tcell ⟨0, 0, x1⟩) 43) LE.out (Nat.le_trans HK.out.size ((Keeps.refl None wr).alloc _).size) rfl rfl rfl rfl rfl ?_
      intro v' w4 ho4 hk4
      rw [← SN.out] at ho4
      have K4 := Lib.hid (((HK.out.alloc (.cells #[.int .i64 0, .int .i64 0, .int .u8 x1] 43))).trans hk4 (T := None) (fun _ h => h) (fun i hi h => absurd (HO.out.block h).1 (by omega)))
      have HO4 := Lib.hid ho4
      clear hk4 ho4 HO HK
      go_wp2
      go_roundw
      case rel => exact ⟨i + 1, by omega, by go_num, HO4.out, K4.out⟩
      case measure => simp [intOf]; omega
    obtain rfl : L = i := by omega
    -- the copy behind the literals
    have HO2 := HO.out
    rw [List.take_of_length_le (by rw [HL.out]; exact Nat.le_refl _)] at HO2
    have LE : Hid ((litL zs).length ≤ 1000000) := by show _ ≤ _; rw [lit_len, HL.out]; omega
    have HZ := Lib.hid HO2
    clear HO2 HO hlt hi
    go_wp2_with (at_builtin; refine Hid.out ?_)
    refine Lib.hid ?_
    refine wpList_append_tok (ts := litL zs) (B := W.heap.size) (T := 43) ⟨n, d, 0⟩ (HZ.out.keeps ((Keeps.refl None _).alloc _) (fun _ _ h => h)) (Blk.new wr (tcell ⟨n, d, 0⟩) 43) LE.out (Nat.le_trans HK.out.size ((Keeps.refl None wr).alloc _).size) rfl rfl rfl rfl rfl ?_
    intro v4 w4 ho4 hk4
    have K4 := Lib.hid (((HK.out.alloc (.cells #[.int .i64 n, .int .i64 d, .int .u8 0] 43))).trans hk4 (T := None) (fun _ h => h) (fun i hi h => absurd (HZ.out.block h).1 (by omega)))
    obtain ⟨A4, c4, rfl, t4, -⟩ := ho4.shape WF.out
    have l4 := t4.le
    have m4 := t4.max
    have LN : Hid ((litL zs ++ [(⟨n, d, 0⟩ : Tok)]).length = L + 1) := by show _ = _; rw [List.length_append, lit_len, HL.out]; rfl
    rw [LN.out] at t4 l4 ⊢
    have T4 := Lib.hid t4
    clear hk4 ho4 t4 HZ HK
    by_cases h0 : n = 0
    · subst h0
      by_cases h1 : d = 0
      · subst h1
        have RB : Hid (rightB (litL zs ++ [(⟨0, 0, 0⟩ : Tok)]) 0 = true) := by show _ = _; rw [RC.out]; rfl
        have PL : Hid (plainL (litL zs ++ [(⟨0, 0, 0⟩ : Tok)]) = zs ++ [0]) := by
          show _ = _
          rw [right_out RB.out, plainT_append, (lit_right zs 0 (Int.le_refl 0) (by have := HL.out; omega)).2.2]
          rfl
        go_wp2_with fail
        refine (tkplain_any A4 _ c4 _ _ T4.out).mono ?_
        rw [PL.out]
        rintro e w5 ⟨v5, rfl, o5, k5⟩
        obtain ⟨A5, c5, rfl, b5, -⟩ := o5.shape
        have LP : Hid ((zs ++ [(0 : Int)]).length = L + 1) := by show _ = _; rw [List.length_append, HL.out]; rfl
        rw [LP.out] at b5 ⊢
        have T5 := Lib.hid (T4.out.later k5)
        have K5 := Lib.hid (K4.out.trans k5 (T := None) (fun _ h => h) (fun _ _ h => h))
        have B5 := Lib.hid b5
        have l5 := b5.le
        have m5 := b5.max
        clear o5 k5 PL b5
        go_wp2_with fail
        refine (tkright_any A4 _ c4 _ _ T5.out).mono ?_
        rw [RB.out]
        rintro e w6 ⟨rfl, k6⟩
        have K6 := Lib.hid (K5.out.trans k6 (T := None) (fun _ h => h) (fun _ _ h => h))
        obtain ⟨bl, of1, x1, rfl, hx1, -, -, hc1⟩ := (B5.out.keeps k6 (fun _ _ _ _ _ h => h)).get (i := L) (by omega)
        have ez : x1 = 0 := by rw [← hx1, ← HL.out]; simp [List.getD]
        subst ez
        clear hx1 k6
        go_wp2
        go_ret
        exact ⟨by first | rfl | simp, K6.out.below (fun _ _ h => h)⟩
      · have e1 : (d == 0) = false := by simpa using h1
        -- none that may be
        have RB : Hid (rightB (litL zs ++ [(⟨0, d, 0⟩ : Tok)]) 0 = false) := by show _ = _; rw [RC.out]; unfold mayC; simp; omega
        have PL : Hid (plainL (litL zs ++ [(⟨0, d, 0⟩ : Tok)]) = []) := right_no RB.out
        go_wp2_with fail
        refine (tkplain_any A4 _ c4 _ _ T4.out).mono ?_
        rw [PL.out]
        rintro e w5 ⟨v5, rfl, o5, k5⟩
        obtain ⟨A5, c5, rfl, -, -⟩ := o5.shape
        have T5 := Lib.hid (T4.out.later k5)
        have K5 := Lib.hid (K4.out.trans k5 (T := None) (fun _ h => h) (fun _ _ h => h))
        clear o5 k5 PL
        dsimp only [List.length_nil]
        go_wp2_with fail
        refine (tkright_any A4 _ c4 _ _ T5.out).mono ?_
        rw [RB.out]
        rintro e w6 ⟨rfl, k6⟩
        have K6 := Lib.hid (K5.out.trans k6 (T := None) (fun _ h => h) (fun _ _ h => h))
        go_wp2
        go_ret
        exact ⟨by first | rfl | simp, K6.out.below (fun _ _ h => h)⟩
    have e0 : (n == 0) = false := by simpa using h0
    by_cases h2 : 2 ≤ n
    · have e2 : decide (2 ≤ n) = true := decide_eq_true h2
      by_cases h3 : n ≤ 257
      · have e3 : decide (n ≤ 257) = true := decide_eq_true h3
        by_cases h4 : 1 ≤ d
        · have e4 : decide (1 ≤ d) = true := decide_eq_true h4
          by_cases h5 : d ≤ L
          · obtain ⟨nn, rfl⟩ : ∃ x : Nat, n = x := ⟨n.toNat, by omega⟩
            obtain ⟨dn, rfl⟩ : ∃ x : Nat, d = x := ⟨d.toNat, by omega⟩
            have e5 : decide ((dn : Int) ≤ (L : Int)) = true := decide_eq_true h5
            have e6 : decide (dn ≤ L) = true := decide_eq_true (by omega)
            have RB : Hid (rightB (litL zs ++ [(⟨nn, dn, 0⟩ : Tok)]) 0 = true) := by show _ = _; rw [RC.out]; unfold mayC; simp; omega
            obtain ⟨pl, hpl⟩ : ∃ x, copyT dn nn zs = x := ⟨_, rfl⟩
            have PL : Hid (plainL (litL zs ++ [(⟨nn, dn, 0⟩ : Tok)]) = pl) := by
              show _ = _
              rw [right_out RB.out, plainT_append, (lit_right zs 0 (Int.le_refl 0) (by have := HL.out; omega)).2.2, ← hpl]
              show stepT ⟨nn, dn, 0⟩ ([] ++ zs) = _
              unfold stepT
              rw [if_neg (by show ¬ (nn : Int) = 0; omega)]
              rfl
            have LP : Hid (pl.length = L + nn) := by show _ = _; rw [← hpl, copyT_len, HL.out]
            have TK : Hid (pl.take L = zs) := by show _ = _; rw [← hpl, ← HL.out]; exact copyT_take dn nn zs
            have GT : Hid (∀ j, j < nn → pl.getD (L + j) 0 = pl.getD (L + j - dn) 0) := fun j hj => by
              rw [← hpl, ← HL.out]; exact copyT_get dn (by omega) nn zs (by have := HL.out; omega) j hj
            clear hpl
            go_wp2_with fail
            refine (tkplain_any A4 _ c4 _ _ T4.out).mono ?_
            rw [PL.out]
            rintro e w5 ⟨v5, rfl, o5, k5⟩
            obtain ⟨A5, c5, rfl, b5, -⟩ := o5.shape
            rw [LP.out] at b5 ⊢
            have T5 := Lib.hid (T4.out.later k5)
            have K5 := Lib.hid (K4.out.trans k5 (T := None) (fun _ h => h) (fun _ _ h => h))
            have B5 := Lib.hid b5
            have l5 := b5.le
            have m5 := b5.max
            clear o5 k5 PL b5
            go_wp2_with fail
            refine (tkright_any A4 _ c4 _ _ T5.out).mono ?_
            rw [RB.out]
            rintro e w6 ⟨rfl, k6⟩
            have K6 := Lib.hid (K5.out.trans k6 (T := None) (fun _ h => h) (fun _ _ h => h))
            have B6 := Lib.hid (B5.out.keeps k6 (fun _ _ _ _ _ h => h))
            have H6 := Lib.hid (HB.out.keeps K6.out (fun _ _ _ _ _ h => h))
            obtain ⟨b5, of5, rfl, -, -⟩ := B6.out.at_ (by omega)
            have BT := Lib.hid (B6.out.take (k := L) (by omega))
            rw [TK.out] at BT
            obtain ⟨sz, hsz⟩ : ∃ sz, strOf zs = sz := ⟨_, rfl⟩
            have V1 := Lib.hid (run_str BT.out.drew)
            have V2 := Lib.hid (run_str H6.out.drew)
            rw [hsz] at V1 V2
            have qz : (sz.toList != sz.toList) = false := by simp
            have n0 : ((nn : Int) == 0) = false := by simp; omega
            clear hsz k6 B5 K5 T5
            go_wp2
            obtain ⟨mS, mh⟩ : ∃ S : World → Prop, ∀ w', S w' ↔ (((convert 32 9 (.slice (some ⟨b5, of5, none⟩) L c5)).run Try.prog w' = .ok (.string sz) w') ∧ ((convert 32 9 (.slice A L cap)).run Try.prog w' = .ok (.string sz) w')) := ⟨_, fun _ => Iff.rfl⟩
            have mk0 : ∀ x : Memb mS, (convert 32 9 (.slice (some ⟨b5, of5, none⟩) L c5)).run Try.prog x.at_ = .ok (.string sz) x.at_ := fun x => ((mh _).1 x.is).1
            have mk1 : ∀ x : Memb mS, (convert 32 9 (.slice A L cap)).run Try.prog x.at_ = .ok (.string sz) x.at_ := fun x => ((mh _).1 x.is).2
            have mn : Nonempty (Memb mS) := ⟨⟨(w6).drew, (mh _).2 ⟨V1.out, V2.out⟩⟩⟩
            have mH := Lib.hid mh
            clear mh
            refine wp_region_mix [] (InS mS) (by kernel_rfl) (by kernel_rfl) (InS.mk ((mH.out _).2 ⟨V1.out, V2.out⟩)) ?_
            refine wpMix_seg 17 (by kernel_rfl) (by decide) ?_
            simp only [List.take_succ_cons, List.take_zero, List.drop_succ_cons, List.drop_zero]
            repeat (first | go_big_quiet_step (fail) | (go_big_quiet_want; first | refine quiet_conv mk0 rfl rfl rfl (by simp only [Act.put, List.setIfInBounds_toArray, List.set_cons_succ, List.set_cons_zero]; rfl) ?_; go_big_quiet_on | refine quiet_conv mk1 rfl rfl rfl (by simp only [Act.put, List.setIfInBounds_toArray, List.set_cons_succ, List.set_cons_zero]; rfl) ?_; go_big_quiet_on))
            refine wpQuiet_nil ?_
            refine wpMix_nil ?_
            clear mk0 mk1 mn mH
            clear V1 V2 BT
            go_wp2
            go_loopw [12] (fun iv wr => ∃ j k : Nat, j ≤ nn ∧ iv = .int .i64 ((L + j : Nat) : Int) ∧ wr = w6.drewN k) (fun iv _ => L + nn - (intOf iv).toNat)
            case atStart => exact ⟨0, 1, Nat.zero_le _, rfl, rfl⟩
            case round =>
              obtain ⟨j, k, hj, rfl, rfl⟩ := hrel
              obtain ⟨p, hp⟩ : ∃ p, L + j = p := ⟨_, rfl⟩
              rw [hp]
              by_cases hjn : j < nn
              · have e7 : decide ((p : Int) < (L : Int) + nn) = true := decide_eq_true (by omega)
                have e8 : decide (p < L + nn) = true := decide_eq_true (by omega)
                obtain ⟨q, hq⟩ : ∃ q, q + dn = p := ⟨p - dn, by omega⟩
                have hqi : (p : Int) - dn = (q : Int) := by omega
                obtain ⟨bl, of1, x1, he1, hx1, -, -, hc1⟩ := (B6.out.drewN k).get (i := p) (by omega)
                cases he1
                obtain ⟨bl2, of2, x2, hxx, hx2, -, -, hc2⟩ := (B6.out.drewN k).get (i := q) (by omega)
                cases hxx
                have hee : x1 = x2 := by have := GT.out j hjn; rw [hp, hx1, show p - dn = q by omega, hx2] at this; exact this
                subst hee
                clear hx1 hx2
                have P9 := Lib.hid hp
                have pb : p < L + nn := by omega
                clear hp
                go_wp2
                obtain ⟨m2S, m2h⟩ : ∃ S : World → Prop, ∀ w', S w' ↔ (w'.cell? ⟨b5, of5 + p, none⟩ = some (.int .u8 x1) ∧ w'.cell? ⟨b5, of5 + q, none⟩ = some (.int .u8 x1)) := ⟨_, fun _ => Iff.rfl⟩
                have m2k0 : ∀ x : Memb m2S, x.at_.cell? ⟨b5, of5 + p, none⟩ = some (.int .u8 x1) := fun x => ((m2h _).1 x.is).1
                have m2k1 : ∀ x : Memb m2S, x.at_.cell? ⟨b5, of5 + q, none⟩ = some (.int .u8 x1) := fun x => ((m2h _).1 x.is).2
                have m2n : Nonempty (Memb m2S) := ⟨⟨((w6.drewN k)).drew, (m2h _).2 ⟨hc1, hc2⟩⟩⟩
                have m2H := Lib.hid m2h
                clear m2h
                refine wp_region_mix [] (InS m2S) (by kernel_rfl) (by kernel_rfl) (InS.mk ((m2H.out _).2 ⟨hc1, hc2⟩)) ?_
                refine wpMix_seg 11 (by kernel_rfl) (by decide) ?_
                simp only [List.take_succ_cons, List.take_zero, List.drop_succ_cons, List.drop_zero]
                repeat (go_big_quiet_step (fail))
                refine wpQuiet_nil ?_
                refine wpMix_nil ?_
                clear m2k0 m2k1 m2n m2H
                go_wp2
                go_roundw
                case rel => exact ⟨j + 1, k + 1, hjn, by have := P9.out; go_num, rfl⟩
                case measure => simp [intOf]; omega
              · have e7 : decide ((p : Int) < (L : Int) + nn) = false := decide_eq_false (by omega)
                go_wp2
                go_ret
                exact ⟨rfl, (K6.out.drewN _).below (fun _ _ h => h)⟩
          · have e5 : decide (d ≤ (L : Int)) = false := decide_eq_false h5
            -- none that may be
            have RB : Hid (rightB (litL zs ++ [(⟨n, d, 0⟩ : Tok)]) 0 = false) := by show _ = _; rw [RC.out]; unfold mayC; simp; omega
            have PL : Hid (plainL (litL zs ++ [(⟨n, d, 0⟩ : Tok)]) = []) := right_no RB.out
            go_wp2_with fail
            refine (tkplain_any A4 _ c4 _ _ T4.out).mono ?_
            rw [PL.out]
            rintro e w5 ⟨v5, rfl, o5, k5⟩
            obtain ⟨A5, c5, rfl, -, -⟩ := o5.shape
            have T5 := Lib.hid (T4.out.later k5)
            have K5 := Lib.hid (K4.out.trans k5 (T := None) (fun _ h => h) (fun _ _ h => h))
            clear o5 k5 PL
            dsimp only [List.length_nil]
            go_wp2_with fail
            refine (tkright_any A4 _ c4 _ _ T5.out).mono ?_
            rw [RB.out]
            rintro e w6 ⟨rfl, k6⟩
            have K6 := Lib.hid (K5.out.trans k6 (T := None) (fun _ h => h) (fun _ _ h => h))
            go_wp2
            go_ret
            exact ⟨by first | rfl | simp, K6.out.below (fun _ _ h => h)⟩
        · have e4 : decide (1 ≤ d) = false := decide_eq_false h4
          -- none that may be
          have RB : Hid (rightB (litL zs ++ [(⟨n, d, 0⟩ : Tok)]) 0 = false) := by show _ = _; rw [RC.out]; unfold mayC; simp; omega
          have PL : Hid (plainL (litL zs ++ [(⟨n, d, 0⟩ : Tok)]) = []) := right_no RB.out
          go_wp2_with fail
          refine (tkplain_any A4 _ c4 _ _ T4.out).mono ?_
          rw [PL.out]
          rintro e w5 ⟨v5, rfl, o5, k5⟩
          obtain ⟨A5, c5, rfl, -, -⟩ := o5.shape
          have T5 := Lib.hid (T4.out.later k5)
          have K5 := Lib.hid (K4.out.trans k5 (T := None) (fun _ h => h) (fun _ _ h => h))
          clear o5 k5 PL
          dsimp only [List.length_nil]
          go_wp2_with fail
          refine (tkright_any A4 _ c4 _ _ T5.out).mono ?_
          rw [RB.out]
          rintro e w6 ⟨rfl, k6⟩
          have K6 := Lib.hid (K5.out.trans k6 (T := None) (fun _ h => h) (fun _ _ h => h))
          go_wp2
          go_ret
          exact ⟨by first | rfl | simp, K6.out.below (fun _ _ h => h)⟩
      · have e3 : decide (n ≤ 257) = false := decide_eq_false h3
        -- none that may be
        have RB : Hid (rightB (litL zs ++ [(⟨n, d, 0⟩ : Tok)]) 0 = false) := by show _ = _; rw [RC.out]; unfold mayC; simp; omega
        have PL : Hid (plainL (litL zs ++ [(⟨n, d, 0⟩ : Tok)]) = []) := right_no RB.out
        go_wp2_with fail
        refine (tkplain_any A4 _ c4 _ _ T4.out).mono ?_
        rw [PL.out]
        rintro e w5 ⟨v5, rfl, o5, k5⟩
        obtain ⟨A5, c5, rfl, -, -⟩ := o5.shape
        have T5 := Lib.hid (T4.out.later k5)
        have K5 := Lib.hid (K4.out.trans k5 (T := None) (fun _ h => h) (fun _ _ h => h))
        clear o5 k5 PL
        dsimp only [List.length_nil]
        go_wp2_with fail
        refine (tkright_any A4 _ c4 _ _ T5.out).mono ?_
        rw [RB.out]
        rintro e w6 ⟨rfl, k6⟩
        have K6 := Lib.hid (K5.out.trans k6 (T := None) (fun _ h => h) (fun _ _ h => h))
        go_wp2
        go_ret
        exact ⟨by first | rfl | simp, K6.out.below (fun _ _ h => h)⟩
    · have e2 : decide (2 ≤ n) = false := decide_eq_false h2
      -- none that may be
      have RB : Hid (rightB (litL zs ++ [(⟨n, d, 0⟩ : Tok)]) 0 = false) := by show _ = _; rw [RC.out]; unfold mayC; simp; omega
      have PL : Hid (plainL (litL zs ++ [(⟨n, d, 0⟩ : Tok)]) = []) := right_no RB.out
      go_wp2_with fail
      refine (tkplain_any A4 _ c4 _ _ T4.out).mono ?_
      rw [PL.out]
      rintro e w5 ⟨v5, rfl, o5, k5⟩
      obtain ⟨A5, c5, rfl, -, -⟩ := o5.shape
      have T5 := Lib.hid (T4.out.later k5)
      have K5 := Lib.hid (K4.out.trans k5 (T := None) (fun _ h => h) (fun _ _ h => h))
      clear o5 k5 PL
      dsimp only [List.length_nil]
      go_wp2_with fail
      refine (tkright_any A4 _ c4 _ _ T5.out).mono ?_
      rw [RB.out]
      rintro e w6 ⟨rfl, k6⟩
      have K6 := Lib.hid (K5.out.trans k6 (T := None) (fun _ h => h) (fun _ _ h => h))
      go_wp2
      go_ret
      exact ⟨by first | rfl | simp, K6.out.below (fun _ _ h => h)⟩
set_option maxRecDepth 100000 in
theorem TokenCopies_lifted (os : Os) (started : os.Started) (H : Type) (enc : TypeId × Value → H) :
    ReturnsInHanded {} Try.checked os 9 .any (Rows.tokenCopiesSpec.pre6 enc Try.prog Try.f9 Rows.tokenCopiesRow.domain false) (Rows.tokenCopiesSpec.post enc Try.prog Try.f9 false true false false) := by
  refine returnsInHanded_of_change (C := Try.checked) Try.own started (by kernel_rfl) Try.func9
    (ChangeSpec.witness6 (enc := enc) (C := Try.checked) false ⟨#[], #[.slice none 0 0, .int .i64 0, .int .i64 0], []⟩ 8 (by kernel_rfl) (by kernel_rfl) (by kernel_rfl) (by kernel_rfl)) ?_
  intro W base args ds gs before hval0 hW hcnd _
  have hval : ∀ (j : Nat) t v, Try.f9.params[j]? = some t → args[j]? = some v → Value.okWide Try.prog W .any base t v := hval0
  have hW' := hW
  obtain ⟨p, q, hA0, hV, rfl, hfz, hnd⟩ := hW
  have hA : DataW.TrodAll enc Try.prog W 0 (fun _ => true) true Try.f9.params.toList args.toList ds p := hA0
  rw [Try.params9] at hA hval
  obtain ⟨v0, vs0, d0, ds0, p0, q0, hargs, rfl, rfl, h0, r0⟩ := trodAll_cons hA
  obtain ⟨v1, vs1, d1, ds1, p1, q1, rfl, rfl, rfl, h1, r1⟩ := trodAll_cons r0
  obtain ⟨v2, vs2, d2, ds2, p2, q2, rfl, rfl, rfl, h2, r2⟩ := trodAll_cons r1
  obtain ⟨rfl, rfl, rfl⟩ := trodAll_nil r2
  obtain rfl : args = #[v0, v1, v2] := by cases args; simp_all
  obtain ⟨rfl, rfl⟩ := trodVars_none hV
  have k0 := h0
  have lt0 : ∀ x ∈ p0, x.block < W.heap.size := by obtain ⟨m, hm⟩ := k0; exact DataW.trod_lt m _ _ _ hm
  obtain ⟨a0, len0, cap0, rfl⟩ := okWide_slice Try.underlying32 (hval 0 32 v0 rfl rfl)
  obtain ⟨z0, s0⟩ := open_bs h0
  have k1 := h1
  have lt1 : ∀ x ∈ p1, x.block < W.heap.size := by obtain ⟨m, hm⟩ := k1; exact DataW.trod_lt m _ _ _ hm
  obtain ⟨a1, rfl, rfl, rfl, w1⟩ := open_int Try.underlying3 (hval 1 3 v1 rfl rfl) h1
  have k2 := h2
  have lt2 : ∀ x ∈ p2, x.block < W.heap.size := by obtain ⟨m, hm⟩ := k2; exact DataW.trod_lt m _ _ _ hm
  obtain ⟨a2, rfl, rfl, rfl, w2⟩ := open_int Try.underlying3 (hval 2 3 v2 rfl rfl) h2
  clear hA0 hval0
  refine (copies19_any a0 len0 cap0 z0 a1 a2 W s0 (wf_i64_bd w1) (wf_i64_bd w2)).mono fun e W' ⟨he, bel⟩ => ?_
  subst he
  exact ⟨_, rfl, _, _, _, [], _, [], hW', trodAll_mk1 (shut_bool Try.underlying4 _), (trodAll_cons_mk (Below.trod Try.laidOut (by kernel_rfl) (of_decide_eq_true (by kernel_rfl)) k0 bel lt0) (trodAll_cons_mk (Below.trod Try.laidOut (by kernel_rfl) (of_decide_eq_true (by kernel_rfl)) k1 bel lt1) (trodAll_cons_mk (Below.trod Try.laidOut (by kernel_rfl) (of_decide_eq_true (by kernel_rfl)) k2 bel lt2) trodAll_mk0))), rfl, bel.frame _, fun h => by cases h⟩

set_option maxRecDepth 100000 in
theorem TokenCopies_closed : joinedFacts Try.checked.prog 9 Try.f9 Rows.tokenCopiesSpec Rows.tokenCopiesRow = true := by
  unfold joinedFacts
  rw [closed_laid, closed_maps, closed_heard, closed_plain, closed_mayEnter, closed_lifts, closed_make]
  kernel_rfl

theorem TokenCopies_holds : Rows.TokenCopiesSaid :=
  OpenClaim.holds_of_wide 9 Try.f9 rfl rfl rfl rfl rfl rfl rfl ⟨rfl, rfl, rfl, rfl, rfl⟩ rfl rfl rfl rfl rfl (by kernel_rfl) Try.func9 TokenCopies_closed
    (of_decide_eq_true (by kernel_rfl)) (by unfold Func.isWrapper; first | (rw [if_pos (by decide +kernel)]; kernel_rfl) | (rw [if_neg (by decide +kernel)]; exact ⟨rfl, rfl⟩))
    (fun os started H enc _ => TokenCopies_lifted os started H enc)
#print axioms TokenCopies_holds
end Go.Proofs.Ytggjdkkobhefeaa
