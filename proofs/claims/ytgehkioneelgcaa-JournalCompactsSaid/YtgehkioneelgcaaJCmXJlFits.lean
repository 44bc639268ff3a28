
/- The law's fits: records numbered from 1 on. -/
import Derived.Test.YtgehkioneelgcaaJCuXJlSame
namespace Go.Proofs.Ytgehkioneelgcaa
open Go.RowKit

theorem numR_get : ∀ (l : List Rec) (j i : Nat), (numR j l)[i]? = l[i]?.map (fun r => { r with s := ((j + i + 1 : Nat) : Int) })
  | [], _, _ => rfl
  | r :: l, j, 0 => rfl
  | r :: l, j, i + 1 => by
    simp only [numR, List.getElem?_cons_succ]
    rw [numR_get l (j + 1) i]
    rw [show j + 1 + i + 1 = j + (i + 1) + 1 by omega]
set_option maxRecDepth 100000 in
set_option maxHeartbeats 3200000 in
theorem fits_all (A B : Option Addr) (n m c d : Nat) (xs ys : List RV) (P Q : Nat → Prop) (w : World) (h1 : Rws w A n c xs) (h2 : Rws w B m d ys) (b1 : Bds w P xs) (b2 : Bds w Q ys) :
    Calls Try.prog 15 #[.slice A n c, .slice B m d] w fun e w' => e = .returned (.bool (decide (xs.map RV.r = numR 0 (ys.map RV.r)))) ∧ Keeps None w w' := by
  have L1 := Lib.hid h1.len
  have L2 := Lib.hid h2.len
  have m1 := h1.le
  have m2 := h1.max
  have m3 := h2.le
  have m4 := h2.max
  have H1 := Lib.hid h1
  have H2 := Lib.hid h2
  have B1 := Lib.hid b1
  have B2 := Lib.hid b2
  have LN : (numR 0 (ys.map RV.r)).length = m := by rw [numR_len, List.length_map, L2.out]
  have DR : Hid (∀ i, (∀ k, k < i → (xs.map RV.r)[k]? = (numR 0 (ys.map RV.r))[k]?) → i < n → n = m → ∃ x y, xs[i]? = some x ∧ ys[i]? = some y ∧ ((¬ (x.k = y.k ∧ x.s = (i : Int) + 1 ∧ x.b = y.b) → decide (xs.map RV.r = numR 0 (ys.map RV.r)) = false) ∧ (x.k = y.k ∧ x.s = (i : Int) + 1 ∧ x.b = y.b → ∀ k, k < i + 1 → (xs.map RV.r)[k]? = (numR 0 (ys.map RV.r))[k]?))) := by
    intro i hk hi hnm
    have l1 := L1.out
    have l2 := L2.out
    have hx : xs[i]? = some xs[i] := List.getElem?_eq_getElem (by omega)
    have hy : ys[i]? = some ys[i] := List.getElem?_eq_getElem (by omega)
    have gx : (xs.map RV.r)[i]? = some xs[i].r := by rw [List.getElem?_map, hx]; rfl
    have gy : (numR 0 (ys.map RV.r))[i]? = some ⟨ys[i].k, (i : Int) + 1, ys[i].b⟩ := by
      rw [numR_get, List.getElem?_map, hy]
      simp [RV.r]
    refine ⟨xs[i], ys[i], hx, hy, fun hne => decide_eq_false fun he => hne ?_, fun he k hk2 => ?_⟩
    · rw [he, gy] at gx
      have := Option.some.inj gx
      exact ⟨(congrArg Rec.k this).symm, (congrArg Rec.s this).symm, (congrArg Rec.b this).symm⟩
    · by_cases q : k = i
      · subst q
        rw [gx, gy]
        congr 1
        obtain ⟨e1, e2, e3⟩ := he
        show (⟨_, _, _⟩ : Rec) = _
        rw [e1, e2, e3]
      · exact hk k (by omega)
  have DN : Hid (n = m → (∀ k, k < n → (xs.map RV.r)[k]? = (numR 0 (ys.map RV.r))[k]?) → decide (xs.map RV.r = numR 0 (ys.map RV.r)) = true) := by
    intro hnm hk
    refine decide_eq_true (List.ext_getElem? fun k => ?_)
    by_cases q : k < n
    · exact hk k q
    · rw [List.getElem?_eq_none (by rw [List.length_map, L1.out]; omega), List.getElem?_eq_none (by rw [LN]; omega)]
  have DX : Hid (n ≠ m → decide (xs.map RV.r = numR 0 (ys.map RV.r)) = false) := fun hne => decide_eq_false fun he => hne (by have := congrArg List.length he; rwa [List.length_map, LN, L1.out] at this)
  generalize decide (xs.map RV.r = numR 0 (ys.map RV.r)) = res at *
  clear h1 h2 b1 b2 LN
  go_enter Try.func15, Try.ntmps15
  by_cases hnm : n = m
  · subst hnm
    have d0 : ((n : Int) != (n : Int)) = false := by simp
    have DN2 := Lib.hid (DN.out rfl)
    have DR2 := Lib.hid (fun i h1 h2 => DR.out i h1 h2 rfl)
    clear DN DR DX
    go_wp2
    go_loopw [5] (fun iv wr => ∃ i : Nat, i ≤ n ∧ iv = .int .i64 i ∧ Keeps None w wr ∧ ∀ k, k < i → (xs.map RV.r)[k]? = (numR 0 (ys.map RV.r))[k]?) (fun iv _ => n - (intOf iv).toNat)
    case atStart => exact ⟨0, Nat.zero_le _, rfl, Keeps.refl _ _, fun k hk => absurd hk (Nat.not_lt_zero k)⟩
    case round =>
      obtain ⟨i, hi, rfl, hk, he⟩ := hrel
      have HK := Lib.hid hk
      have HE := Lib.hid he
      clear hk he
      by_cases hlt : i < n
      · obtain ⟨rx, ry, hx, hy, hne, heq⟩ := DR2.out i HE.out hlt
        obtain ⟨gb, off, rfl, hgb, hc⟩ := H1.out.at_ (by omega)
        obtain ⟨x0, x1, x2⟩ := hc i rx hx
        rw [← HK.out.cell hgb (fun h => h)] at x0 x1 x2
        obtain ⟨gb2, off2, rfl, hgb2, hc2⟩ := H2.out.at_ (by omega)
        obtain ⟨y0, -, y2⟩ := hc2 i ry hy
        rw [← HK.out.cell hgb2 (fun h => h)] at y0 y2
        have BX := (B1.out.bs rx (List.mem_of_getElem? hx)).keeps HK.out (fun _ _ _ _ _ h => h)
        have BY := (B2.out.bs ry (List.mem_of_getElem? hy)).keeps HK.out (fun _ _ _ _ _ h => h)
        have EQ := strOf_beq BX.byte BY.byte
        have HN := Lib.hid hne
        have HQ := Lib.hid heq
        obtain ⟨xk, xsq, xA, xc, xb⟩ := rx
        obtain ⟨yk, ysq, yA, yc, yb⟩ := ry
        unfold RV.v at x2 y2
        dsimp only at x0 x1 x2 y0 y2 BX BY EQ HN HQ
        obtain ⟨bq, hbq⟩ : ∃ z, decide (xb = yb) = z := ⟨_, rfl⟩
        obtain ⟨xn, hxn⟩ : ∃ z, xb.length = z := ⟨_, rfl⟩
        obtain ⟨yn, hyn⟩ : ∃ z, yb.length = z := ⟨_, rfl⟩
        rw [hxn] at BX x2
        rw [hyn] at BY y2
        rw [hbq] at EQ
        have RX := Lib.hid BX
        have RY := Lib.hid BY
        obtain ⟨sx, hsx⟩ : ∃ z, Hid (strOf xb = z) := ⟨_, rfl⟩
        obtain ⟨sy, hsy⟩ : ∃ z, Hid (strOf yb = z) := ⟨_, rfl⟩
        rw [hsx.out, hsy.out] at EQ
        clear hc hc2 hx hy hgb hgb2 hxn hyn hne heq BX BY
        go_wp2
        cases q1 : (xk != yk) with
        | true =>
          have E0 := Lib.hid (HN.out (fun h => absurd h.1 (by simpa using q1)))
          obtain ⟨mS, mh⟩ : ∃ S : World → Prop, ∀ w', S w' ↔ (w'.cell? ⟨gb, off + i * 3, none⟩ = some (.int .i64 xk) ∧ w'.cell? ⟨gb, off + i * 3 + 1, none⟩ = some (.int .i64 xsq) ∧ w'.cell? ⟨gb, off + i * 3 + 2, none⟩ = some (.slice xA xn xc) ∧ w'.cell? ⟨gb2, off2 + i * 3, none⟩ = some (.int .i64 yk) ∧ w'.cell? ⟨gb2, off2 + i * 3 + 2, none⟩ = some (.slice yA yn yc) ∧ ((convert 24 9 (.slice xA xn xc)).run Try.prog w' = .ok (.string sx) w') ∧ ((convert 24 9 (.slice yA yn yc)).run Try.prog w' = .ok (.string sy) w')) := ⟨_, fun _ => Iff.rfl⟩
          have mk0 : ∀ x : Memb mS, x.at_.cell? ⟨gb, off + i * 3, none⟩ = some (.int .i64 xk) := fun x => ((mh _).1 x.is).1
          have mk1 : ∀ x : Memb mS, x.at_.cell? ⟨gb, off + i * 3 + 1, none⟩ = some (.int .i64 xsq) := fun x => ((mh _).1 x.is).2.1
          have mk2 : ∀ x : Memb mS, x.at_.cell? ⟨gb, off + i * 3 + 2, none⟩ = some (.slice xA xn xc) := fun x => ((mh _).1 x.is).2.2.1
          have mk3 : ∀ x : Memb mS, x.at_.cell? ⟨gb2, off2 + i * 3, none⟩ = some (.int .i64 yk) := fun x => ((mh _).1 x.is).2.2.2.1
          have mk4 : ∀ x : Memb mS, x.at_.cell? ⟨gb2, off2 + i * 3 + 2, none⟩ = some (.slice yA yn yc) := fun x => ((mh _).1 x.is).2.2.2.2.1
          have mk5 : ∀ x : Memb mS, (convert 24 9 (.slice xA xn xc)).run Try.prog x.at_ = .ok (.string sx) x.at_ := fun x => ((mh _).1 x.is).2.2.2.2.2.1
          have mk6 : ∀ x : Memb mS, (convert 24 9 (.slice yA yn yc)).run Try.prog x.at_ = .ok (.string sy) x.at_ := fun x => ((mh _).1 x.is).2.2.2.2.2.2
          have mn : Nonempty (Memb mS) := ⟨⟨(wr).drew, (mh _).2 ⟨x0, x1, x2, y0, y2, hsx.out ▸ run_str RX.out.drew, hsy.out ▸ run_str RY.out.drew⟩⟩⟩
          have mH := Lib.hid mh
          clear mh
          refine wp_region_mix [] (InS mS) (by kernel_rfl) (by kernel_rfl) (InS.mk ((mH.out _).2 ⟨x0, x1, x2, y0, y2, hsx.out ▸ run_str RX.out.drew, hsy.out ▸ run_str RY.out.drew⟩)) ?_
          refine wpMix_seg 36 (by kernel_rfl) (by decide) ?_
          simp only [List.take_succ_cons, List.take_zero, List.drop_succ_cons, List.drop_zero]
          repeat (first | go_big_quiet_step (fail) | (go_big_quiet_want; first | refine quiet_conv mk5 rfl rfl rfl (by simp only [Act.put, List.setIfInBounds_toArray, List.set_cons_succ, List.set_cons_zero]; rfl) ?_; go_big_quiet_on | refine quiet_conv mk6 rfl rfl rfl (by simp only [Act.put, List.setIfInBounds_toArray, List.set_cons_succ, List.set_cons_zero]; rfl) ?_; go_big_quiet_on))
          refine wpQuiet_nil ?_
          refine wpMix_nil ?_
          clear mk0 mk1 mk2 mk3 mk4 mk5 mk6 mn mH
          go_wp2
          go_ret
          exact ⟨by rw [E0.out]; rfl, HK.out.drew⟩
        | false =>
        cases q2 : (xsq != (i : Int) + 1) with
        | true =>
          have E0 := Lib.hid (HN.out (fun h => absurd h.2.1 (by simpa using q2)))
          obtain ⟨mS, mh⟩ : ∃ S : World → Prop, ∀ w', S w' ↔ (w'.cell? ⟨gb, off + i * 3, none⟩ = some (.int .i64 xk) ∧ w'.cell? ⟨gb, off + i * 3 + 1, none⟩ = some (.int .i64 xsq) ∧ w'.cell? ⟨gb, off + i * 3 + 2, none⟩ = some (.slice xA xn xc) ∧ w'.cell? ⟨gb2, off2 + i * 3, none⟩ = some (.int .i64 yk) ∧ w'.cell? ⟨gb2, off2 + i * 3 + 2, none⟩ = some (.slice yA yn yc) ∧ ((convert 24 9 (.slice xA xn xc)).run Try.prog w' = .ok (.string sx) w') ∧ ((convert 24 9 (.slice yA yn yc)).run Try.prog w' = .ok (.string sy) w')) := ⟨_, fun _ => Iff.rfl⟩
          have mk0 : ∀ x : Memb mS, x.at_.cell? ⟨gb, off + i * 3, none⟩ = some (.int .i64 xk) := fun x => ((mh _).1 x.is).1
          have mk1 : ∀ x : Memb mS, x.at_.cell? ⟨gb, off + i * 3 + 1, none⟩ = some (.int .i64 xsq) := fun x => ((mh _).1 x.is).2.1
          have mk2 : ∀ x : Memb mS, x.at_.cell? ⟨gb, off + i * 3 + 2, none⟩ = some (.slice xA xn xc) := fun x => ((mh _).1 x.is).2.2.1
          have mk3 : ∀ x : Memb mS, x.at_.cell? ⟨gb2, off2 + i * 3, none⟩ = some (.int .i64 yk) := fun x => ((mh _).1 x.is).2.2.2.1
          have mk4 : ∀ x : Memb mS, x.at_.cell? ⟨gb2, off2 + i * 3 + 2, none⟩ = some (.slice yA yn yc) := fun x => ((mh _).1 x.is).2.2.2.2.1
          have mk5 : ∀ x : Memb mS, (convert 24 9 (.slice xA xn xc)).run Try.prog x.at_ = .ok (.string sx) x.at_ := fun x => ((mh _).1 x.is).2.2.2.2.2.1
          have mk6 : ∀ x : Memb mS, (convert 24 9 (.slice yA yn yc)).run Try.prog x.at_ = .ok (.string sy) x.at_ := fun x => ((mh _).1 x.is).2.2.2.2.2.2
          have mn : Nonempty (Memb mS) := ⟨⟨(wr).drew, (mh _).2 ⟨x0, x1, x2, y0, y2, hsx.out ▸ run_str RX.out.drew, hsy.out ▸ run_str RY.out.drew⟩⟩⟩
          have mH := Lib.hid mh
          clear mh
          refine wp_region_mix [] (InS mS) (by kernel_rfl) (by kernel_rfl) (InS.mk ((mH.out _).2 ⟨x0, x1, x2, y0, y2, hsx.out ▸ run_str RX.out.drew, hsy.out ▸ run_str RY.out.drew⟩)) ?_
          refine wpMix_seg 36 (by kernel_rfl) (by decide) ?_
          simp only [List.take_succ_cons, List.take_zero, List.drop_succ_cons, List.drop_zero]
          repeat (first | go_big_quiet_step (fail) | (go_big_quiet_want; first | refine quiet_conv mk5 rfl rfl rfl (by simp only [Act.put, List.setIfInBounds_toArray, List.set_cons_succ, List.set_cons_zero]; rfl) ?_; go_big_quiet_on | refine quiet_conv mk6 rfl rfl rfl (by simp only [Act.put, List.setIfInBounds_toArray, List.set_cons_succ, List.set_cons_zero]; rfl) ?_; go_big_quiet_on))
          refine wpQuiet_nil ?_
          refine wpMix_nil ?_
          clear mk0 mk1 mk2 mk3 mk4 mk5 mk6 mn mH
          go_wp2
          go_ret
          exact ⟨by rw [E0.out]; rfl, HK.out.drew⟩
        | false =>
        cases bq with
        | false =>
          have E0 := Lib.hid (HN.out (fun h => absurd h.2.2 (of_decide_eq_false hbq)))
          obtain ⟨mS, mh⟩ : ∃ S : World → Prop, ∀ w', S w' ↔ (w'.cell? ⟨gb, off + i * 3, none⟩ = some (.int .i64 xk) ∧ w'.cell? ⟨gb, off + i * 3 + 1, none⟩ = some (.int .i64 xsq) ∧ w'.cell? ⟨gb, off + i * 3 + 2, none⟩ = some (.slice xA xn xc) ∧ w'.cell? ⟨gb2, off2 + i * 3, none⟩ = some (.int .i64 yk) ∧ w'.cell? ⟨gb2, off2 + i * 3 + 2, none⟩ = some (.slice yA yn yc) ∧ ((convert 24 9 (.slice xA xn xc)).run Try.prog w' = .ok (.string sx) w') ∧ ((convert 24 9 (.slice yA yn yc)).run Try.prog w' = .ok (.string sy) w')) := ⟨_, fun _ => Iff.rfl⟩
          have mk0 : ∀ x : Memb mS, x.at_.cell? ⟨gb, off + i * 3, none⟩ = some (.int .i64 xk) := fun x => ((mh _).1 x.is).1
          have mk1 : ∀ x : Memb mS, x.at_.cell? ⟨gb, off + i * 3 + 1, none⟩ = some (.int .i64 xsq) := fun x => ((mh _).1 x.is).2.1
          have mk2 : ∀ x : Memb mS, x.at_.cell? ⟨gb, off + i * 3 + 2, none⟩ = some (.slice xA xn xc) := fun x => ((mh _).1 x.is).2.2.1
          have mk3 : ∀ x : Memb mS, x.at_.cell? ⟨gb2, off2 + i * 3, none⟩ = some (.int .i64 yk) := fun x => ((mh _).1 x.is).2.2.2.1
          have mk4 : ∀ x : Memb mS, x.at_.cell? ⟨gb2, off2 + i * 3 + 2, none⟩ = some (.slice yA yn yc) := fun x => ((mh _).1 x.is).2.2.2.2.1
          have mk5 : ∀ x : Memb mS, (convert 24 9 (.slice xA xn xc)).run Try.prog x.at_ = .ok (.string sx) x.at_ := fun x => ((mh _).1 x.is).2.2.2.2.2.1
          have mk6 : ∀ x : Memb mS, (convert 24 9 (.slice yA yn yc)).run Try.prog x.at_ = .ok (.string sy) x.at_ := fun x => ((mh _).1 x.is).2.2.2.2.2.2
          have mn : Nonempty (Memb mS) := ⟨⟨(wr).drew, (mh _).2 ⟨x0, x1, x2, y0, y2, hsx.out ▸ run_str RX.out.drew, hsy.out ▸ run_str RY.out.drew⟩⟩⟩
          have mH := Lib.hid mh
          clear mh
          refine wp_region_mix [] (InS mS) (by kernel_rfl) (by kernel_rfl) (InS.mk ((mH.out _).2 ⟨x0, x1, x2, y0, y2, hsx.out ▸ run_str RX.out.drew, hsy.out ▸ run_str RY.out.drew⟩)) ?_
          refine wpMix_seg 36 (by kernel_rfl) (by decide) ?_
          simp only [List.take_succ_cons, List.take_zero, List.drop_succ_cons, List.drop_zero]
          repeat (first | go_big_quiet_step (fail) | (go_big_quiet_want; first | refine quiet_conv mk5 rfl rfl rfl (by simp only [Act.put, List.setIfInBounds_toArray, List.set_cons_succ, List.set_cons_zero]; rfl) ?_; go_big_quiet_on | refine quiet_conv mk6 rfl rfl rfl (by simp only [Act.put, List.setIfInBounds_toArray, List.set_cons_succ, List.set_cons_zero]; rfl) ?_; go_big_quiet_on))
          refine wpQuiet_nil ?_
          refine wpMix_nil ?_
          clear mk0 mk1 mk2 mk3 mk4 mk5 mk6 mn mH
          go_wp2
          go_ret
          exact ⟨by rw [E0.out]; rfl, HK.out.drew⟩
        | true =>
          have HE2 := Lib.hid (HQ.out ⟨by simpa using q1, by simpa using q2, of_decide_eq_true hbq⟩)
          obtain ⟨mS, mh⟩ : ∃ S : World → Prop, ∀ w', S w' ↔ (w'.cell? ⟨gb, off + i * 3, none⟩ = some (.int .i64 xk) ∧ w'.cell? ⟨gb, off + i * 3 + 1, none⟩ = some (.int .i64 xsq) ∧ w'.cell? ⟨gb, off + i * 3 + 2, none⟩ = some (.slice xA xn xc) ∧ w'.cell? ⟨gb2, off2 + i * 3, none⟩ = some (.int .i64 yk) ∧ w'.cell? ⟨gb2, off2 + i * 3 + 2, none⟩ = some (.slice yA yn yc) ∧ ((convert 24 9 (.slice xA xn xc)).run Try.prog w' = .ok (.string sx) w') ∧ ((convert 24 9 (.slice yA yn yc)).run Try.prog w' = .ok (.string sy) w')) := ⟨_, fun _ => Iff.rfl⟩
          have mk0 : ∀ x : Memb mS, x.at_.cell? ⟨gb, off + i * 3, none⟩ = some (.int .i64 xk) := fun x => ((mh _).1 x.is).1
          have mk1 : ∀ x : Memb mS, x.at_.cell? ⟨gb, off + i * 3 + 1, none⟩ = some (.int .i64 xsq) := fun x => ((mh _).1 x.is).2.1
          have mk2 : ∀ x : Memb mS, x.at_.cell? ⟨gb, off + i * 3 + 2, none⟩ = some (.slice xA xn xc) := fun x => ((mh _).1 x.is).2.2.1
          have mk3 : ∀ x : Memb mS, x.at_.cell? ⟨gb2, off2 + i * 3, none⟩ = some (.int .i64 yk) := fun x => ((mh _).1 x.is).2.2.2.1
          have mk4 : ∀ x : Memb mS, x.at_.cell? ⟨gb2, off2 + i * 3 + 2, none⟩ = some (.slice yA yn yc) := fun x => ((mh _).1 x.is).2.2.2.2.1
          have mk5 : ∀ x : Memb mS, (convert 24 9 (.slice xA xn xc)).run Try.prog x.at_ = .ok (.string sx) x.at_ := fun x => ((mh _).1 x.is).2.2.2.2.2.1
          have mk6 : ∀ x : Memb mS, (convert 24 9 (.slice yA yn yc)).run Try.prog x.at_ = .ok (.string sy) x.at_ := fun x => ((mh _).1 x.is).2.2.2.2.2.2
          have mn : Nonempty (Memb mS) := ⟨⟨(wr).drew, (mh _).2 ⟨x0, x1, x2, y0, y2, hsx.out ▸ run_str RX.out.drew, hsy.out ▸ run_str RY.out.drew⟩⟩⟩
          have mH := Lib.hid mh
          clear mh
          refine wp_region_mix [] (InS mS) (by kernel_rfl) (by kernel_rfl) (InS.mk ((mH.out _).2 ⟨x0, x1, x2, y0, y2, hsx.out ▸ run_str RX.out.drew, hsy.out ▸ run_str RY.out.drew⟩)) ?_
          refine wpMix_seg 36 (by kernel_rfl) (by decide) ?_
          simp only [List.take_succ_cons, List.take_zero, List.drop_succ_cons, List.drop_zero]
          repeat (first | go_big_quiet_step (fail) | (go_big_quiet_want; first | refine quiet_conv mk5 rfl rfl rfl (by simp only [Act.put, List.setIfInBounds_toArray, List.set_cons_succ, List.set_cons_zero]; rfl) ?_; go_big_quiet_on | refine quiet_conv mk6 rfl rfl rfl (by simp only [Act.put, List.setIfInBounds_toArray, List.set_cons_succ, List.set_cons_zero]; rfl) ?_; go_big_quiet_on))
          refine wpQuiet_nil ?_
          refine wpMix_nil ?_
          clear mk0 mk1 mk2 mk3 mk4 mk5 mk6 mn mH
          go_wp2
          go_roundw
          case rel => exact ⟨i + 1, by omega, by go_num, HK.out.drew, HE2.out⟩
          case measure => simp [intOf]; omega
      · obtain rfl : i = n := by omega
        have E0 := Lib.hid (DN2.out HE.out)
        go_wp2
        go_ret
        exact ⟨by rw [E0.out]; rfl, HK.out⟩
  · have d0 : ((n : Int) != (m : Int)) = true := by simpa using (by omega : ¬ (n : Int) = m)
    have E0 := Lib.hid (DX.out hnm)
    go_wp2
    go_ret
    exact ⟨by rw [E0.out]; rfl, Keeps.refl _ _⟩
end Go.Proofs.Ytgehkioneelgcaa
