
/- Records compared. -/
import Derived.Test.YtfldgaiiniknpaaLCuXJl2
namespace Go.Proofs.Ytfldgaiiniknpaa
open Go.RowKit

instance recEq (a b : Rec) : Decidable (a = b) := decidable_of_iff (a.k = b.k ∧ a.s = b.s ∧ a.b = b.b) ⟨fun h => by obtain ⟨h1, h2, h3⟩ := h; cases a; cases b; simp only at h1 h2 h3; rw [h1, h2, h3], fun h => by rw [h]; exact ⟨rfl, rfl, rfl⟩⟩
def RV.a (r : RV) : Value := .agg #[.int .i64 r.k, .int .i64 r.s, r.v]
set_option maxRecDepth 100000 in
theorem rsame_all (x y : RV) (w : World) (h1 : Bs w x.A x.b.length x.c x.b) (h2 : Bs w y.A y.b.length y.c y.b) :
    Calls Try.prog 45 #[x.a, y.a] w fun e w' => e = .returned (.bool (decide (x.r = y.r))) ∧ Keeps None w w' := by
  obtain ⟨k, s, A, c, zs⟩ := x
  obtain ⟨k2, s2, B, d, ys⟩ := y
  unfold RV.a RV.v RV.r
  simp only [] at h1 h2 ⊢
  have EQ := strOf_beq h1.byte h2.byte
  have ED : Hid (decide ((⟨k, s, zs⟩ : Rec) = ⟨k2, s2, ys⟩) = (k == k2 && (s == s2 && decide (zs = ys)))) := by
    show _ = _
    by_cases e1 : k = k2 <;> by_cases e2 : s = s2 <;> by_cases e3 : zs = ys <;> simp [e1, e2, e3]
  rw [ED.out]
  obtain ⟨n, hn⟩ : ∃ x, zs.length = x := ⟨_, rfl⟩
  obtain ⟨m, hm⟩ : ∃ x, ys.length = x := ⟨_, rfl⟩
  obtain ⟨bq, hbq⟩ : ∃ b, decide (zs = ys) = b := ⟨_, rfl⟩
  rw [hbq] at EQ ⊢
  rw [hn] at h1 ⊢
  rw [hm] at h2 ⊢
  have r1 := run_str ((h1.alloc (.cells #[.int .i64 k, .int .i64 s, .slice A n c] 58)).alloc (.cells #[.int .i64 k2, .int .i64 s2, .slice B m d] 58))
  have r2 := run_str ((h2.alloc (.cells #[.int .i64 k, .int .i64 s, .slice A n c] 58)).alloc (.cells #[.int .i64 k2, .int .i64 s2, .slice B m d] 58))
  generalize strOf zs = sm at *
  generalize strOf ys = sn at *
  clear h1 h2 ED hbq hn hm
  have fin : Keeps None w ((w.alloc (.cells #[.int .i64 k, .int .i64 s, .slice A n c] 58)).alloc (.cells #[.int .i64 k2, .int .i64 s2, .slice B m d] 58)) := ((Keeps.refl None w).alloc _).alloc _
  go_enter Try.func45, Try.ntmps45
  cases q1 : (k == k2) with
  | false =>
    go_wp2
    go_ret
    exact ⟨rfl, fin⟩
  | true =>
  cases q2 : (s == s2) with
  | false =>
    go_wp2
    go_ret
    exact ⟨rfl, fin⟩
  | true =>
  go_wp2
  go_ret
  exact ⟨rfl, fin⟩
set_option maxRecDepth 100000 in
set_option maxHeartbeats 1600000 in
theorem rsames_all (A B : Option Addr) (n m c d : Nat) (xs ys : List RV) (P Q : Nat → Prop) (w : World) (h1 : Rws w A n c xs) (h2 : Rws w B m d ys) (b1 : Bds w P xs) (b2 : Bds w Q ys) :
    Calls Try.prog 19 #[.slice A n c, .slice B m d] w fun e w' => e = .returned (.bool (decide (xs.map RV.r = ys.map RV.r))) ∧ Keeps None w w' := by
  have L1 := Lib.hid h1.len
  have L2 := Lib.hid h2.len
  have m1 := h1.le
  have m2 := h1.max
  have m3 := h2.le
  have m4 := h2.max
  have H1 := Lib.hid h1
  have H2 := Lib.hid h2
  have B1 := Lib.hid b1
  have B2 := Lib.hid b2
  have DR : Hid (∀ i, (∀ k, k < i → (xs.map RV.r)[k]? = (ys.map RV.r)[k]?) → i < n → n = m → ∃ x y, xs[i]? = some x ∧ ys[i]? = some y ∧ ((x.r ≠ y.r → decide (xs.map RV.r = ys.map RV.r) = false) ∧ (x.r = y.r → ∀ k, k < i + 1 → (xs.map RV.r)[k]? = (ys.map RV.r)[k]?))) := by
    intro i hk hi hnm
    have l1 := L1.out
    have l2 := L2.out
    refine ⟨xs[i], ys[i], List.getElem?_eq_getElem (by omega), List.getElem?_eq_getElem (by omega), fun hne => decide_eq_false fun he => hne ?_, fun he k hk2 => ?_⟩
    · have := congrArg (fun z : List Rec => z[i]?) he
      simpa [show i < xs.length by omega, show i < ys.length by omega] using this
    · by_cases q : k = i
      · subst q; simp [show k < xs.length by omega, show k < ys.length by omega, he]
      · exact hk k (by omega)
  have DN : Hid (n = m → (∀ k, k < n → (xs.map RV.r)[k]? = (ys.map RV.r)[k]?) → decide (xs.map RV.r = ys.map RV.r) = true) := by
    intro hnm hk
    refine decide_eq_true (List.ext_getElem? fun k => ?_)
    by_cases q : k < n
    · exact hk k q
    · rw [List.getElem?_eq_none (by rw [List.length_map, L1.out]; omega), List.getElem?_eq_none (by rw [List.length_map, L2.out]; omega)]
  have DX : Hid (n ≠ m → decide (xs.map RV.r = ys.map RV.r) = false) := fun hne => decide_eq_false fun he => hne (by have := congrArg List.length he; rwa [List.length_map, List.length_map, L1.out, L2.out] at this)
  generalize decide (xs.map RV.r = ys.map RV.r) = res at *
  clear h1 h2 b1 b2
  go_enter Try.func19, Try.ntmps19
  by_cases hnm : n = m
  · subst hnm
    have d0 : ((n : Int) != (n : Int)) = false := by simp
    have DN2 := Lib.hid (DN.out rfl)
    have DR2 := Lib.hid (fun i h1 h2 => DR.out i h1 h2 rfl)
    clear DN DR DX
    go_wp2
    go_loopw [5] (fun iv wr => ∃ i : Nat, i ≤ n ∧ iv = .int .i64 i ∧ Keeps None w wr ∧ ∀ k, k < i → (xs.map RV.r)[k]? = (ys.map RV.r)[k]?) (fun iv _ => n - (intOf iv).toNat)
    case atStart => exact ⟨0, Nat.zero_le _, rfl, Keeps.refl _ _, fun k hk => absurd hk (Nat.not_lt_zero k)⟩
    case round =>
      obtain ⟨i, hi, rfl, hk, he⟩ := hrel
      have HK := Lib.hid hk
      have HE := Lib.hid he
      clear hk he
      by_cases hlt : i < n
      · obtain ⟨rx, ry, hx, hy, hne, heq⟩ := DR2.out i HE.out hlt
        obtain ⟨gb, off, rfl, hgb, hc⟩ := H1.out.at_ (by omega)
        obtain ⟨x0, x1, x2⟩ := hc i rx hx
        rw [← HK.out.cell hgb (fun h => h)] at x0 x1 x2
        obtain ⟨gb2, off2, rfl, hgb2, hc2⟩ := H2.out.at_ (by omega)
        obtain ⟨y0, y1, y2⟩ := hc2 i ry hy
        rw [← HK.out.cell hgb2 (fun h => h)] at y0 y1 y2
        have SM := Lib.hid (fun w' (k : Keeps None wr w') => rsame_all rx ry w' ((B1.out.bs rx (List.mem_of_getElem? hx)).keeps (HK.out.trans k (fun _ h => h) (fun _ _ h => h)) (fun _ _ _ _ _ h => h)) ((B2.out.bs ry (List.mem_of_getElem? hy)).keeps (HK.out.trans k (fun _ h => h) (fun _ _ h => h)) (fun _ _ _ _ _ h => h)))
        have HN := Lib.hid hne
        have HQ := Lib.hid heq
        unfold RV.a at SM
        unfold RV.v at SM x2 y2
        obtain ⟨xn, hxn⟩ : ∃ z, rx.b.length = z := ⟨_, rfl⟩
        obtain ⟨yn, hyn⟩ : ∃ z, ry.b.length = z := ⟨_, rfl⟩
        rw [hxn] at SM x2
        rw [hyn] at SM y2
        obtain ⟨q, hq⟩ : ∃ z, decide (rx.r = ry.r) = z := ⟨_, rfl⟩
        rw [hq] at SM
        have G1 : Hid (gb < wr.heap.size) := Nat.lt_of_lt_of_le hgb HK.out.size
        have G2 : Hid (gb2 < wr.heap.size) := Nat.lt_of_lt_of_le hgb2 HK.out.size
        have X0 := Lib.hid x0
        have X1 := Lib.hid x1
        have X2 := Lib.hid x2
        have Y0 := Lib.hid y0
        have Y1 := Lib.hid y1
        have Y2 := Lib.hid y2
        clear hc hc2 hx hy hgb hgb2 hxn hyn hne heq
        go_wp2
        obtain ⟨mS, mh⟩ : ∃ S : World → Prop, ∀ w', S w' ↔ (w'.cell? ⟨gb, off + i * 3, none⟩ = some (.int .i64 rx.k) ∧ w'.cell? ⟨gb, off + i * 3 + 1, none⟩ = some (.int .i64 rx.s) ∧ w'.cell? ⟨gb, off + i * 3 + 2, none⟩ = some (.slice rx.A xn rx.c) ∧ w'.cell? ⟨gb2, off2 + i * 3, none⟩ = some (.int .i64 ry.k) ∧ w'.cell? ⟨gb2, off2 + i * 3 + 1, none⟩ = some (.int .i64 ry.s) ∧ w'.cell? ⟨gb2, off2 + i * 3 + 2, none⟩ = some (.slice ry.A yn ry.c)) := ⟨_, fun _ => Iff.rfl⟩
        have mk0 : ∀ x : Memb mS, x.at_.cell? ⟨gb, off + i * 3, none⟩ = some (.int .i64 rx.k) := fun x => ((mh _).1 x.is).1
        have mk1 : ∀ x : Memb mS, x.at_.cell? ⟨gb, off + i * 3 + 1, none⟩ = some (.int .i64 rx.s) := fun x => ((mh _).1 x.is).2.1
        have mk2 : ∀ x : Memb mS, x.at_.cell? ⟨gb, off + i * 3 + 2, none⟩ = some (.slice rx.A xn rx.c) := fun x => ((mh _).1 x.is).2.2.1
        have mk3 : ∀ x : Memb mS, x.at_.cell? ⟨gb2, off2 + i * 3, none⟩ = some (.int .i64 ry.k) := fun x => ((mh _).1 x.is).2.2.2.1
        have mk4 : ∀ x : Memb mS, x.at_.cell? ⟨gb2, off2 + i * 3 + 1, none⟩ = some (.int .i64 ry.s) := fun x => ((mh _).1 x.is).2.2.2.2.1
        have mk5 : ∀ x : Memb mS, x.at_.cell? ⟨gb2, off2 + i * 3 + 2, none⟩ = some (.slice ry.A yn ry.c) := fun x => ((mh _).1 x.is).2.2.2.2.2
        have mn : Nonempty (Memb mS) := ⟨⟨(wr).drew, (mh _).2 ⟨x0, x1, x2, y0, y1, y2⟩⟩⟩
        have mH := Lib.hid mh
        clear mh
        refine wp_region_mix [8] (InS mS) (by kernel_rfl) (by kernel_rfl) (InS.mk ((mH.out _).2 ⟨x0, x1, x2, y0, y1, y2⟩)) ?_
        refine wpMix_seg 8 (by kernel_rfl) (by decide) ?_
        simp only [List.take_succ_cons, List.take_zero, List.drop_succ_cons, List.drop_zero]
        repeat (go_big_quiet_step (fail))
        refine wpQuiet_nil ?_
        refine wpMix_eff (by kernel_rfl) ?_
        go_wp2_with fail
        refine (SM.out _ (Keeps.refl None wr).drew).mono ?_
        rintro e w3 ⟨rfl, k3⟩
        have KC := Lib.hid ((Keeps.refl None wr).drew.trans k3 (T := None) (fun _ h => h) (fun _ _ h => h))
        have K3 := Lib.hid (HK.out.trans KC.out (T := None) (fun _ h => h) (fun _ _ h => h))
        clear k3 SM
        go_wp2
        refine MixK.on (InS.mk ((mH.out _).2 (⟨(KC.out.cell G1.out (fun h => h)).trans X0.out, (KC.out.cell G1.out (fun h => h)).trans X1.out, (KC.out.cell G1.out (fun h => h)).trans X2.out, (KC.out.cell G2.out (fun h => h)).trans Y0.out, (KC.out.cell G2.out (fun h => h)).trans Y1.out, (KC.out.cell G2.out (fun h => h)).trans Y2.out⟩))) ?_
        refine wpMix_seg 1 (by kernel_rfl) (by decide) ?_
        simp only [List.take_succ_cons, List.take_zero, List.drop_succ_cons, List.drop_zero]
        repeat (go_big_quiet_step (fail))
        refine wpQuiet_nil ?_
        refine wpMix_nil ?_
        clear mk0 mk1 mk2 mk3 mk4 mk5 mn mH
        cases q with
        | true =>
          have HE2 := Lib.hid (HQ.out (of_decide_eq_true hq))
          go_wp2
          go_roundw
          case rel => exact ⟨i + 1, by omega, by go_num, K3.out, HE2.out⟩
          case measure => simp [intOf]; omega
        | false =>
          have E0 := Lib.hid (HN.out (of_decide_eq_false hq))
          go_wp2
          go_ret
          exact ⟨by rw [E0.out]; rfl, K3.out⟩
      · obtain rfl : i = n := by omega
        have E0 := Lib.hid (DN2.out HE.out)
        go_wp2
        go_ret
        exact ⟨by rw [E0.out]; rfl, HK.out⟩
  · have d0 : ((n : Int) != (m : Int)) = true := by simpa using (by omega : ¬ (n : Int) = m)
    have E0 := Lib.hid (DX.out hnm)
    go_wp2
    go_ret
    exact ⟨by rw [E0.out]; rfl, Keeps.refl _ _⟩
end Go.Proofs.Ytfldgaiiniknpaa
