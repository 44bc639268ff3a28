/-
  For every row of bits and every row of chances, the law DecoderBack returns true: packed bits are unpacked as they were, with all bytes taken, and none too early. No condition.
-/
import Derived.Test.YteokbedjcnfgiaaDecOnly
namespace Go.Proofs.Yteokbedjcnfgiaa
open Go.RowKit Go.ChangeShapes Go.WideShapes Go.ChangeAt

/-- What the unpacking keeps: i bits told, j bytes taken. -/
structure BK (f : Nat → Bool) (q : Nat → Int) (F : List Int) (n i j : Nat) (d : DSt) : Prop where
  le : i ≤ n
  rel : DRel (cS f q i) d (F.take j)
  need : d.n = 0
  jl : j ≤ F.length
theorem BK.lost {f : Nat → Bool} {q : Nat → Int} {F : List Int} {n i j : Nat} {d : DSt} (h : BK f q F n i j d) (hF : F = (cS f q n).l) : j = (cS f q i).l.length ∧ d.c < d.w := by
  obtain ⟨le, rel, need, jl⟩ := h
  have hl := rel.len
  have htl : (F.take j).length = j := by rw [List.length_take]; omega
  rw [htl, need] at hl
  have hj : j = (cS f q i).l.length := by omega
  obtain ⟨e, rfl⟩ : ∃ e, n = i + e := ⟨n - i, by omega⟩
  obtain ⟨_, h2, h3⟩ := back_in f q i e (F.take j) (by rw [hF, hj])
  have hn := rel.nm
  rw [need] at hn
  have hn2 : num (cS f q i).l = num (F.take j) - d.c := by simpa using hn
  have hw := rel.w
  exact ⟨hj, by omega⟩
/-- The next bit is the one that was packed. -/
theorem BK.bit {f : Nat → Bool} {q : Nat → Int} {F : List Int} {n i j : Nat} {d : DSt} (h : BK f q F n i j d) (hF : F = (cS f q n).l) (hlt : i < n) :
    dStepB d (q i) = bI (f i) ∧ DRel (cS f q (i + 1)) (dStepS d (q i)) (F.take j) ∧ (dStepS d (q i)).n ≤ F.length - j := by
  obtain ⟨hj, hc⟩ := h.lost hF
  obtain ⟨b, hb, hbl, hr⟩ := h.rel.step (q i) h.need hc
  obtain ⟨e, rfl⟩ : ∃ e, n = i + 1 + e := ⟨n - (i + 1), by omega⟩
  have hbb := back_bit f q i e (F.take j) (by rw [hF, hj])
  have eb : b = f i := by
    cases hb2 : b with
    | false => exact (hbb.2 (hbl.1 hb2)).symm
    | true =>
      cases hf : f i with
      | true => rfl
      | false => have := hbl.2 (hbb.1 hf); rw [hb2] at this; cases this
  subst eb
  have hr' : DRel (cS f q (i + 1)) (dStepS d (q i)) (F.take j) := hr
  refine ⟨hb, hr', ?_⟩
  have hl := hr'.len
  have htl : (F.take j).length = j := by rw [List.length_take]; have := h.jl; omega
  rw [htl] at hl
  obtain ⟨e2, h1, _, _⟩ := within_cS f q (i + 1) e
  rw [← hF] at h1
  omega
theorem BK.next {f : Nat → Bool} {q : Nat → Int} {F : List Int} {n i j : Nat} {d : DSt} (hi : i ≤ n) (hr : DRel (cS f q i) d (F.take j)) (hz : ∀ z ∈ F, 0 ≤ z ∧ z ≤ 255) (hj : j ≤ F.length) (hn : d.n ≤ F.length - j) (J : Nat) (hJ : J = min d.n.toNat (F.length - j)) : BK f q F n i (j + J) (dEat d ((F.drop j).take J)) := by
  have hn0 := hr.n0
  have hJn : (J : Int) = d.n := by omega
  have hdl : ((F.drop j).take J).length = J := by rw [List.length_take, List.length_drop]; omega
  obtain ⟨h1, h2⟩ := hr.eat ((F.drop j).take J) (fun z hz' => hz z (List.mem_of_mem_drop (List.mem_of_mem_take hz'))) (by rw [hdl]; omega)
  rw [← List.take_add] at h1
  rw [hdl] at h2
  exact ⟨hi, h1, by omega, by omega⟩
theorem BK.fin {f : Nat → Bool} {q : Nat → Int} {F : List Int} {n j : Nat} {d : DSt} (h : BK f q F n n j d) (hF : F = (cS f q n).l) : j = F.length ∧ d.c = 0 := by
  obtain ⟨hj, _⟩ := h.lost hF
  rw [← hF] at hj
  have hn := h.rel.nm
  rw [h.need, ← hF, hj, List.take_length] at hn
  exact ⟨hj, by simp at hn; omega⟩

set_option maxRecDepth 100000 in
set_option maxHeartbeats 3200000 in
theorem back17_any (A A2 : Option Addr) (n cap n2 cap2 : Nat) (bs : List Bool) (ps : List Int) (W : World) (hl1 : bs.length = n) (h1 : IsSl W A n cap 1 (bs.map .bool)) (hl2 : ps.length = n2) (h2 : IsSl W A2 n2 cap2 1 (ps.map (.int .i64))) :
    Calls Try.prog 11 #[.slice A n cap, .slice A2 n2 cap2] W fun e w' => e = .returned (.bool true) ∧ Below W.heap.size W w' := by
  have ALV : Hid (∀ w, Calls Try.prog 22 #[] w fun e w' => e = .returned (.bool true) ∧ Below w.heap.size w w') := alive17_any
  by_cases g1 : 300 < n
  · have d1 : decide (300 < (n : Int)) = true := decide_eq_true (by omega)
    clear h1 h2 hl1 hl2
    go_enter Try.func11, Try.ntmps11
    go_wp2_with fail
    refine (ALV.out _).mono ?_
    rintro e w1 ⟨rfl, hk⟩
    go_wp2
    go_ret
    exact ⟨rfl, hk⟩
  have d1 : decide (300 < (n : Int)) = false := decide_eq_false (by omega)
  by_cases g2 : n2 < n
  · have d2 : decide ((n2 : Int) < n) = true := decide_eq_true (by omega)
    have d3 : decide (n2 < n) = true := decide_eq_true g2
    clear h1 h2 hl1 hl2
    go_enter Try.func11, Try.ntmps11
    go_wp2_with fail
    refine (ALV.out _).mono ?_
    rintro e w1 ⟨rfl, hk⟩
    go_wp2
    go_ret
    exact ⟨rfl, hk⟩
  have d2 : decide ((n2 : Int) < n) = false := decide_eq_false (by omega)
  have d3 : decide (n2 < n) = false := decide_eq_false g2
  obtain ⟨_, hcap, hmax, hcell⟩ := h1
  obtain ⟨_, hcap2, hmax2, hcell2⟩ := h2
  obtain ⟨f, hf⟩ : ∃ f : Nat → Bool, ∀ i, bs.getD i false = f i := ⟨_, fun _ => rfl⟩
  obtain ⟨q, hq⟩ : ∃ q : Nat → Int, ∀ i, ps.getD i 0 = q i := ⟨_, fun _ => rfl⟩
  have HC1 := Lib.hid (fun (hn : 0 < n) => show ∃ bl off, A = some ⟨bl, off, none⟩ ∧ ∀ (w' : World), Keeps (fun k => W.heap.size ≤ k) W w' → ∀ i, i < n → w'.cell? ⟨bl, off + i, none⟩ = some (.bool (f i)) from by
    obtain ⟨bl, off, e, hb, hc⟩ := hcell hn
    exact ⟨bl, off, e, fun w' hk i hi => by rw [hk.cell (p := ⟨bl, off + i, none⟩) hb (by simp; exact hb), hc i (by omega), map_getD false (by omega), hf]⟩)
  have HC2 := Lib.hid (fun (hn : 0 < n) => show ∃ bl off, A2 = some ⟨bl, off, none⟩ ∧ ∀ (w' : World), Keeps (fun k => W.heap.size ≤ k) W w' → ∀ i, i < n → w'.cell? ⟨bl, off + i, none⟩ = some (.int .i64 (q i)) from by
    obtain ⟨bl, off, e, hb, hc⟩ := hcell2 (by omega)
    exact ⟨bl, off, e, fun w' hk i hi => by rw [hk.cell (p := ⟨bl, off + i, none⟩) hb (by simp; exact hb), hc i (by omega), map_getD 0 (by omega), hq]⟩)
  have SW := Lib.hid (cS_w f q)
  have SL := Lib.hid (cS_len f q)
  have n300 : n ≤ 300 := by omega
  have nn2 : n ≤ n2 := by omega
  clear hcell hcell2 hl1 hl2 g1 g2 hf hq
  go_enter Try.func11, Try.ntmps11
  go_wp2_with fail
  refine (ALV.out _).mono ?_
  rintro e w1 ⟨rfl, hk⟩
  have K1 : Hid (Keeps (fun k => W.heap.size ≤ k) W w1) := ⟨hk.os, hk.tape, hk.output, hk.size, fun i hi _ => hk.block i hi⟩
  clear hk ALV
  go_wp2_with fail
  refine (cnew_any _).mono ?_
  rintro e w2 ⟨rfl, c2, k2⟩
  have C2 := Lib.hid c2
  have KK2 := Lib.hid k2
  clear c2 k2
  go_wp2_with fail
  refine (dnew_any _).mono ?_
  rintro e w3 ⟨rfl, c3, k3⟩
  have key : ∃ gc bc bd, bc = w1.heap.size + 1 ∧ bd = w2.heap.size ∧ CD W w3 gc bc bd (cS f q 0) ⟨0, 4294967295, 4⟩ := by
    have l2 := C2.out.ltb
    have l2g := C2.out.ltg
    have s1 := K1.out.size
    exact ⟨w1.heap.size, _, _, rfl, rfl, ⟨C2.out.keeps k3 (fun h => h) (fun h => h), c3, (K1.out.trans KK2.out (fun _ h => h) (fun _ _ h => h.elim)).trans k3 (fun _ h => h) (fun _ _ h => h.elim), by omega, by omega⟩⟩
  obtain ⟨gc0, bc, bd, e1, e2, hkey⟩ := key
  rw [← e1, ← e2]
  have KEY := Lib.hid hkey
  clear hkey e1 e2 K1 C2 KK2 c3 k3
  go_wp2
  go_loopw [8] (fun iv wr => ∃ (k gc : Nat), k ≤ n ∧ iv = .int .i64 k ∧ CD W wr gc bc bd (cS f q k) ⟨0, 4294967295, 4⟩) (fun iv _ => n - (intOf iv).toNat)
  case atStart => exact ⟨0, gc0, Nat.zero_le _, rfl, KEY.out⟩
  case round =>
    obtain ⟨k, gc, hkn, rfl, hP⟩ := hrel
    clear KEY
    have HP := Lib.hid hP
    clear hP
    by_cases hlt : k < n
    · obtain ⟨bl, off, rfl, hx1⟩ := HC1.out (by omega)
      obtain ⟨bl2, off2, rfl, hx2⟩ := HC2.out (by omega)
      have x1 := hx1 wr HP.out.keeps k hlt
      have x2 := hx2 wr HP.out.keeps k hlt
      obtain ⟨s10, s11⟩ := SW.out k
      have s2 := SL.out k
      have s12 : 0 ≤ (cS f q k).w := by omega
      have s13 : (cS f q k).l.length < 1099511627776 := by omega
      clear hx1 hx2 s2 s10
      by_cases hq0 : q k = 0
      · have HQ0 : q k = 0 := hq0
        cases hfk : f k with
        | false =>
          rw [hfk] at x1
          rw [hq0] at x2
          have CL := Lib.hid (chalf_any bc gc _ _ 0 wr HP.out.c s12 s11 s13)
          have ST : Hid (cS f q (k + 1) = ⟨cHalfL (cS f q k).l (cS f q k).w 0, cHalfW (cS f q k).w⟩) := by
            show cStep (cS f q k) (q k) (bI (f k)) = _
            rw [hfk, cStep, if_pos HQ0]; rfl
          clear HQ0 hq0 hfk
          generalize (cS f q k).l = l0 at *
          generalize (cS f q k).w = w0 at *
          go_wp2_with fail
          refine CL.out.mono ?_
          rintro e w2 ⟨rfl, hm⟩
          obtain ⟨g', hg', hc', hk'⟩ := hm
          have P2 := Lib.hid (HP.out.stepC (s2 := cS f q (k + 1)) hg' (by rw [ST.out]; exact hc') hk')
          clear hc' hk' CL x1 x2 HP hg'
          go_wp2
          go_roundw
          case rel => exact ⟨k + 1, g', by omega, by go_num, P2.out⟩
          case measure => simp [intOf]; omega
        | true =>
          rw [hfk] at x1
          rw [hq0] at x2
          have CL := Lib.hid (chalf_any bc gc _ _ 1 wr HP.out.c s12 s11 s13)
          have ST : Hid (cS f q (k + 1) = ⟨cHalfL (cS f q k).l (cS f q k).w 1, cHalfW (cS f q k).w⟩) := by
            show cStep (cS f q k) (q k) (bI (f k)) = _
            rw [hfk, cStep, if_pos HQ0]; rfl
          clear HQ0 hq0 hfk
          generalize (cS f q k).l = l0 at *
          generalize (cS f q k).w = w0 at *
          go_wp2_with fail
          refine CL.out.mono ?_
          rintro e w2 ⟨rfl, hm⟩
          obtain ⟨g', hg', hc', hk'⟩ := hm
          have P2 := Lib.hid (HP.out.stepC (s2 := cS f q (k + 1)) hg' (by rw [ST.out]; exact hc') hk')
          clear hc' hk' CL x1 x2 HP hg'
          go_wp2
          go_roundw
          case rel => exact ⟨k + 1, g', by omega, by go_num, P2.out⟩
          case measure => simp [intOf]; omega
      · have q1 : (q k == 0) = false := by simpa using hq0
        cases hfk : f k with
        | false =>
          rw [hfk] at x1
          have CL := Lib.hid (cbit_any bc gc _ _ (q k) 0 wr HP.out.c s12 s11 s13)
          have ST : Hid (cS f q (k + 1) = ⟨cBitL (cS f q k).l (cS f q k).w (q k) 0, cBitW (cS f q k).w (q k) 0⟩) := by
            show cStep (cS f q k) (q k) (bI (f k)) = _
            rw [hfk, cStep, if_neg hq0]; rfl
          clear hq0 hfk
          generalize (cS f q k).l = l0 at *
          generalize (cS f q k).w = w0 at *
          go_wp2_with fail
          refine CL.out.mono ?_
          rintro e w2 ⟨rfl, hm⟩
          obtain ⟨g', hg', hc', hk'⟩ := hm
          have P2 := Lib.hid (HP.out.stepC (s2 := cS f q (k + 1)) hg' (by rw [ST.out]; exact hc') hk')
          clear hc' hk' CL x1 x2 HP hg'
          go_wp2
          go_roundw
          case rel => exact ⟨k + 1, g', by omega, by go_num, P2.out⟩
          case measure => simp [intOf]; omega
        | true =>
          rw [hfk] at x1
          have CL := Lib.hid (cbit_any bc gc _ _ (q k) 1 wr HP.out.c s12 s11 s13)
          have ST : Hid (cS f q (k + 1) = ⟨cBitL (cS f q k).l (cS f q k).w (q k) 1, cBitW (cS f q k).w (q k) 1⟩) := by
            show cStep (cS f q k) (q k) (bI (f k)) = _
            rw [hfk, cStep, if_neg hq0]; rfl
          clear hq0 hfk
          generalize (cS f q k).l = l0 at *
          generalize (cS f q k).w = w0 at *
          go_wp2_with fail
          refine CL.out.mono ?_
          rintro e w2 ⟨rfl, hm⟩
          obtain ⟨g', hg', hc', hk'⟩ := hm
          have P2 := Lib.hid (HP.out.stepC (s2 := cS f q (k + 1)) hg' (by rw [ST.out]; exact hc') hk')
          clear hc' hk' CL x1 x2 HP hg'
          go_wp2
          go_roundw
          case rel => exact ⟨k + 1, g', by omega, by go_num, P2.out⟩
          case measure => simp [intOf]; omega
    · obtain rfl : n = k := by omega
      have sl := SL.out n
      have DN := Lib.hid (fun w h => cdone_any bc gc (cS f q n).l (cS f q n).w w h (by omega))
      have ok := cS_ok f q n
      obtain ⟨F, hF⟩ : ∃ F, F = (cS f q n).l := ⟨_, rfl⟩
      rw [← hF] at DN sl
      have FBY := Lib.hid (show ∀ z ∈ F, 0 ≤ z ∧ z ≤ 255 from by rw [hF]; exact ok.byte)
      have HF := Lib.hid hF
      have CA : Hid (CAt wr bc gc 93 F (cS f q n).w) := by rw [hF]; exact HP.out.c
      clear hF ok hkn hlt
      go_wp2_with fail
      refine (DN.out _ CA.out).mono ?_
      rintro e w4 ⟨v4, rfl, o4, k4⟩
      obtain ⟨A4, cap4, rfl, bs4, loc4⟩ := o4.shape
      have fr := HP.out.fresh
      have NB4 := Lib.hid (show NB A4 bd from fun b' off e h => by have h5 := (loc4 b' off e).1; have := Blk.lt HP.out.d; omega)
      have P4 := Lib.hid (HP.out.later k4)
      have FILL := Lib.hid (dfill_any bd A4 F.length cap4 F ⟨0, 4294967295, 4⟩ w4 bs4 P4.out.d DInv.new (fun _ => NB4.out) (min 4 F.length) (by simp))
      have B0 := Lib.hid (BK.next (f := f) (q := q) (F := F) (n := n) (i := 0) (j := 0) (d := ⟨0, 4294967295, 4⟩) (Nat.zero_le _) DRel.start FBY.out (Nat.zero_le _) (by show (4 : Int) ≤ _; omega) (min 4 F.length) (by simp))
      clear o4 k4 bs4 loc4 DN CA HP
      rw [List.drop_zero, Nat.zero_add] at B0
      generalize dEat ⟨0, 4294967295, 4⟩ (F.take (min 4 F.length)) = ds0 at *
      generalize min 4 F.length = J0 at *
      go_wp2_with fail
      refine FILL.out.mono ?_
      rintro e w5 ⟨A5, n5, c5, rfl, hn5, hb5, sb5, hd5, k5⟩
      have B5 := Lib.hid hb5
      have D5 := Lib.hid hd5
      have NB5 := Lib.hid (NB4.out.of sb5)
      have K5 := Lib.hid (P4.out.keeps.trans k5 (T := fun k => W.heap.size ≤ k) (fun _ h => h) (fun x hx h => by omega))
      clear hb5 sb5 hd5 k5 FILL P4 NB4
      go_wp2
      go_loopw [10, 11] (fun rv iv wr => ∃ (i j : Nat) (ds : DSt) (A' : Option Addr) (n' c' : Nat), rv = .slice A' n' c' ∧ iv = .int .i64 i ∧ n' + j = F.length ∧ BK f q F n i j ds ∧ Bs wr A' n' c' (F.drop j) ∧ NB A' bd ∧ DAt wr bd 90 ds ∧ Keeps (fun k => W.heap.size ≤ k) W wr) (fun _ iv _ => n - (intOf iv).toNat)
      case atStart => exact ⟨0, J0, ds0, A5, n5, c5, rfl, rfl, hn5, B0.out, B5.out, NB5.out, D5.out, K5.out⟩
      case round =>
        obtain ⟨i, j, ds, A', n', c', rfl, rfl, hnj, hBK, hB, hNB, hD, hK⟩ := hrel
        clear B0 B5 NB5 D5 K5
        have hle' := hB.le
        have hmx' := hB.max
        have hin := hBK.le
        have hn00 := hBK.need
        have hdi := hBK.rel.dok.inv
        have hlost := (hBK.lost HF.out).2
        have ND := Lib.hid (dneed_any bd ds wr hD)
        have nb : dNeedB ds = false := decide_eq_false (by omega)
        rw [nb] at ND
        have HB := Lib.hid hB
        have HNB := Lib.hid hNB
        have HD := Lib.hid hD
        have HK := Lib.hid hK
        clear hB hNB hD hK nb
        by_cases hlt : i < n
        · have LO := Lib.hid (dlost_any bd ds wr HD.out)
          have lb : dLostB ds = false := decide_eq_false (fun h => by omega)
          rw [lb] at LO
          obtain ⟨hbit, hR2, hN2⟩ := hBK.bit HF.out hlt
          obtain ⟨bl, off, rfl, hx1⟩ := HC1.out (by omega)
          obtain ⟨bl2, off2, rfl, hx2⟩ := HC2.out (by omega)
          have XB := Lib.hid (fun (w' : World) (hk : Keeps (fun k => W.heap.size ≤ k) W w') => (show w'.cell? ⟨bl, off + i, none⟩ = some (.bool (f i)) from hx1 w' hk i hlt))
          have XP := Lib.hid (fun (w' : World) (hk : Keeps (fun k => W.heap.size ≤ k) W w') => (show w'.cell? ⟨bl2, off2 + i, none⟩ = some (.int .i64 (q i)) from hx2 w' hk i hlt))
          clear lb hx1 hx2 hBK
          cases hfi : f i with
          | false =>
            rw [hfi] at XB hbit
            have hbit0 : dStepB ds (q i) = 0 := hbit
            by_cases hq0 : q i = 0
            · rw [hq0] at XP hbit0 hR2 hN2
              have e1 : dHalfB ds = 0 := by simpa [dStepB] using hbit0
              have ed : dStepS ds 0 = dHalfS ds := if_pos rfl
              rw [ed] at hR2 hN2
              have R6 := Lib.hid hR2
              have N6 := Lib.hid hN2
              have DH := Lib.hid (fun w h => dhalf_any bd ds w h hdi)
              rw [e1] at DH
              have x1 := XB.out wr HK.out
              have x2 := XP.out wr HK.out
              clear hbit hbit0 e1 ed hR2 hN2 hdi hq0 hfi
              generalize dHalfS ds = ds2 at *
              go_wp2_with fail
              refine ND.out.mono ?_
              rintro e w' ⟨rfl, rfl⟩
              go_wp2_with fail
              refine LO.out.mono ?_
              rintro e w' ⟨rfl, kk, rfl⟩
              go_wp2_with fail
              refine (DH.out _ (HD.out.drewN kk)).mono ?_
              rintro e w6 ⟨rfl, d6, k6⟩
              have D6 := Lib.hid d6
              have B6 := Lib.hid ((HB.out.drewN kk).keeps k6 (fun b' off' hn _ e h => HNB.out b' off' e h))
              have K6 := Lib.hid ((HK.out.drewN kk).trans k6 (T := fun k => W.heap.size ≤ k) (fun _ h => h) (fun x hx h => by omega))
              have x3 := XB.out w6 K6.out
              clear d6 k6 DH ND LO HD HB HK x1 x2 XP XB
              -- the decoder's step is done: w6, D6 (decoder ds2), K6, B6 (rest), R6 (DRel), N6 (need)
              have hz6 := FBY.out
              have hdr : (F.drop j).length = n' := by rw [List.length_drop]; omega
              have FILL := Lib.hid (dfill_any bd A' n' c' (F.drop j) ds2 w6 B6.out D6.out R6.out.dok.inv (fun _ => HNB.out) (min ds2.n.toNat n') rfl)
              have hjF : j ≤ F.length := by omega
              have BN := Lib.hid (BK.next (n := n) (i := i + 1) (by omega) R6.out hz6 hjF N6.out (min ds2.n.toNat n') (by rw [← hdr, List.length_drop]))
              clear hdr R6 N6 B6 D6 hz6 hjF
              generalize min ds2.n.toNat n' = J at *
              generalize dEat ds2 ((F.drop j).take J) = ds3 at *
              go_wp2_with fail
              refine FILL.out.mono ?_
              rintro e w7 ⟨A7, n7, c7, rfl, hn7, hb7, sb7, hd7, k7⟩
              rw [List.drop_drop] at hb7
              have B7 := Lib.hid hb7
              have D7 := Lib.hid hd7
              have NB7 := Lib.hid (HNB.out.of sb7)
              have K7 := Lib.hid (K6.out.trans k7 (T := fun k => W.heap.size ≤ k) (fun _ h => h) (fun x hx h => by omega))
              clear hb7 hd7 sb7 k7 FILL K6
              go_wp2
              go_roundw
              case rel => exact ⟨i + 1, j + J, ds3, A7, n7, c7, rfl, by go_num, by omega, BN.out, B7.out, NB7.out, D7.out, K7.out⟩
              case measure => simp [intOf]; omega
            · have q1 : (q i == 0) = false := by simpa using hq0
              have e1 : dBitB ds (q i) = 0 := by rw [← hbit0]; unfold dStepB; rw [if_neg hq0]
              have ed : dStepS ds (q i) = dBitS ds (q i) := if_neg hq0
              have e2 : dBitP ds (q i) = adapt (q i) 0 := by
                have hm : dMayB ds = true := decide_eq_true ⟨hn00, hlost⟩
                unfold dBitB at e1
                unfold dBitP
                rw [if_pos hm] at e1 ⊢
                rw [e1]
              rw [ed] at hR2 hN2
              have R6 := Lib.hid hR2
              have N6 := Lib.hid hN2
              have DH := Lib.hid (fun w h => dbit_any bd ds (q i) w h hdi)
              rw [e1, e2] at DH
              have AD := Lib.hid (fun w => adapt_any (q i) 0 w)
              have x1 := XB.out wr HK.out
              have x2 := XP.out wr HK.out
              clear hbit hbit0 e1 e2 ed hR2 hN2 hdi hq0 hfi
              generalize dBitS ds (q i) = ds2 at *
              generalize adapt (q i) 0 = av at *
              generalize q i = p at *
              go_wp2_with fail
              refine ND.out.mono ?_
              rintro e w' ⟨rfl, rfl⟩
              go_wp2_with fail
              refine LO.out.mono ?_
              rintro e w' ⟨rfl, kk, rfl⟩
              go_wp2_with fail
              refine (DH.out _ (HD.out.drewN kk)).mono ?_
              rintro e w6 ⟨rfl, d6, k6⟩
              have D6 := Lib.hid d6
              have B6 := Lib.hid ((HB.out.drewN kk).keeps k6 (fun b' off' hn _ e h => HNB.out b' off' e h))
              have K6 := Lib.hid ((HK.out.drewN kk).trans k6 (T := fun k => W.heap.size ≤ k) (fun _ h => h) (fun x hx h => by omega))
              have x3 := XB.out w6 K6.out
              have x4 := XP.out w6 K6.out
              clear d6 k6 DH ND LO HD HB HK x1 x2 XP XB
              go_wp2_with fail
              refine (AD.out _).mono ?_
              rintro e w' ⟨rfl, rfl⟩
              clear AD
              -- the decoder's step is done: w6, D6 (decoder ds2), K6, B6 (rest), R6 (DRel), N6 (need)
              have hz6 := FBY.out
              have hdr : (F.drop j).length = n' := by rw [List.length_drop]; omega
              have FILL := Lib.hid (dfill_any bd A' n' c' (F.drop j) ds2 w6 B6.out D6.out R6.out.dok.inv (fun _ => HNB.out) (min ds2.n.toNat n') rfl)
              have hjF : j ≤ F.length := by omega
              have BN := Lib.hid (BK.next (n := n) (i := i + 1) (by omega) R6.out hz6 hjF N6.out (min ds2.n.toNat n') (by rw [← hdr, List.length_drop]))
              clear hdr R6 N6 B6 D6 hz6 hjF
              generalize min ds2.n.toNat n' = J at *
              generalize dEat ds2 ((F.drop j).take J) = ds3 at *
              go_wp2_with fail
              refine FILL.out.mono ?_
              rintro e w7 ⟨A7, n7, c7, rfl, hn7, hb7, sb7, hd7, k7⟩
              rw [List.drop_drop] at hb7
              have B7 := Lib.hid hb7
              have D7 := Lib.hid hd7
              have NB7 := Lib.hid (HNB.out.of sb7)
              have K7 := Lib.hid (K6.out.trans k7 (T := fun k => W.heap.size ≤ k) (fun _ h => h) (fun x hx h => by omega))
              clear hb7 hd7 sb7 k7 FILL K6
              go_wp2
              go_roundw
              case rel => exact ⟨i + 1, j + J, ds3, A7, n7, c7, rfl, by go_num, by omega, BN.out, B7.out, NB7.out, D7.out, K7.out⟩
              case measure => simp [intOf]; omega
          | true =>
            rw [hfi] at XB hbit
            have hbit0 : dStepB ds (q i) = 1 := hbit
            by_cases hq0 : q i = 0
            · rw [hq0] at XP hbit0 hR2 hN2
              have e1 : dHalfB ds = 1 := by simpa [dStepB] using hbit0
              have ed : dStepS ds 0 = dHalfS ds := if_pos rfl
              rw [ed] at hR2 hN2
              have R6 := Lib.hid hR2
              have N6 := Lib.hid hN2
              have DH := Lib.hid (fun w h => dhalf_any bd ds w h hdi)
              rw [e1] at DH
              have x1 := XB.out wr HK.out
              have x2 := XP.out wr HK.out
              clear hbit hbit0 e1 ed hR2 hN2 hdi hq0 hfi
              generalize dHalfS ds = ds2 at *
              go_wp2_with fail
              refine ND.out.mono ?_
              rintro e w' ⟨rfl, rfl⟩
              go_wp2_with fail
              refine LO.out.mono ?_
              rintro e w' ⟨rfl, kk, rfl⟩
              go_wp2_with fail
              refine (DH.out _ (HD.out.drewN kk)).mono ?_
              rintro e w6 ⟨rfl, d6, k6⟩
              have D6 := Lib.hid d6
              have B6 := Lib.hid ((HB.out.drewN kk).keeps k6 (fun b' off' hn _ e h => HNB.out b' off' e h))
              have K6 := Lib.hid ((HK.out.drewN kk).trans k6 (T := fun k => W.heap.size ≤ k) (fun _ h => h) (fun x hx h => by omega))
              have x3 := XB.out w6 K6.out
              clear d6 k6 DH ND LO HD HB HK x1 x2 XP XB
              -- the decoder's step is done: w6, D6 (decoder ds2), K6, B6 (rest), R6 (DRel), N6 (need)
              have hz6 := FBY.out
              have hdr : (F.drop j).length = n' := by rw [List.length_drop]; omega
              have FILL := Lib.hid (dfill_any bd A' n' c' (F.drop j) ds2 w6 B6.out D6.out R6.out.dok.inv (fun _ => HNB.out) (min ds2.n.toNat n') rfl)
              have hjF : j ≤ F.length := by omega
              have BN := Lib.hid (BK.next (n := n) (i := i + 1) (by omega) R6.out hz6 hjF N6.out (min ds2.n.toNat n') (by rw [← hdr, List.length_drop]))
              clear hdr R6 N6 B6 D6 hz6 hjF
              generalize min ds2.n.toNat n' = J at *
              generalize dEat ds2 ((F.drop j).take J) = ds3 at *
              go_wp2_with fail
              refine FILL.out.mono ?_
              rintro e w7 ⟨A7, n7, c7, rfl, hn7, hb7, sb7, hd7, k7⟩
              rw [List.drop_drop] at hb7
              have B7 := Lib.hid hb7
              have D7 := Lib.hid hd7
              have NB7 := Lib.hid (HNB.out.of sb7)
              have K7 := Lib.hid (K6.out.trans k7 (T := fun k => W.heap.size ≤ k) (fun _ h => h) (fun x hx h => by omega))
              clear hb7 hd7 sb7 k7 FILL K6
              go_wp2
              go_roundw
              case rel => exact ⟨i + 1, j + J, ds3, A7, n7, c7, rfl, by go_num, by omega, BN.out, B7.out, NB7.out, D7.out, K7.out⟩
              case measure => simp [intOf]; omega
            · have q1 : (q i == 0) = false := by simpa using hq0
              have e1 : dBitB ds (q i) = 1 := by rw [← hbit0]; unfold dStepB; rw [if_neg hq0]
              have ed : dStepS ds (q i) = dBitS ds (q i) := if_neg hq0
              have e2 : dBitP ds (q i) = adapt (q i) 1 := by
                have hm : dMayB ds = true := decide_eq_true ⟨hn00, hlost⟩
                unfold dBitB at e1
                unfold dBitP
                rw [if_pos hm] at e1 ⊢
                rw [e1]
              rw [ed] at hR2 hN2
              have R6 := Lib.hid hR2
              have N6 := Lib.hid hN2
              have DH := Lib.hid (fun w h => dbit_any bd ds (q i) w h hdi)
              rw [e1, e2] at DH
              have AD := Lib.hid (fun w => adapt_any (q i) 1 w)
              have x1 := XB.out wr HK.out
              have x2 := XP.out wr HK.out
              clear hbit hbit0 e1 e2 ed hR2 hN2 hdi hq0 hfi
              generalize dBitS ds (q i) = ds2 at *
              generalize adapt (q i) 1 = av at *
              generalize q i = p at *
              go_wp2_with fail
              refine ND.out.mono ?_
              rintro e w' ⟨rfl, rfl⟩
              go_wp2_with fail
              refine LO.out.mono ?_
              rintro e w' ⟨rfl, kk, rfl⟩
              go_wp2_with fail
              refine (DH.out _ (HD.out.drewN kk)).mono ?_
              rintro e w6 ⟨rfl, d6, k6⟩
              have D6 := Lib.hid d6
              have B6 := Lib.hid ((HB.out.drewN kk).keeps k6 (fun b' off' hn _ e h => HNB.out b' off' e h))
              have K6 := Lib.hid ((HK.out.drewN kk).trans k6 (T := fun k => W.heap.size ≤ k) (fun _ h => h) (fun x hx h => by omega))
              have x3 := XB.out w6 K6.out
              have x4 := XP.out w6 K6.out
              clear d6 k6 DH ND LO HD HB HK x1 x2 XP XB
              go_wp2_with fail
              refine (AD.out _).mono ?_
              rintro e w' ⟨rfl, rfl⟩
              clear AD
              -- the decoder's step is done: w6, D6 (decoder ds2), K6, B6 (rest), R6 (DRel), N6 (need)
              have hz6 := FBY.out
              have hdr : (F.drop j).length = n' := by rw [List.length_drop]; omega
              have FILL := Lib.hid (dfill_any bd A' n' c' (F.drop j) ds2 w6 B6.out D6.out R6.out.dok.inv (fun _ => HNB.out) (min ds2.n.toNat n') rfl)
              have hjF : j ≤ F.length := by omega
              have BN := Lib.hid (BK.next (n := n) (i := i + 1) (by omega) R6.out hz6 hjF N6.out (min ds2.n.toNat n') (by rw [← hdr, List.length_drop]))
              clear hdr R6 N6 B6 D6 hz6 hjF
              generalize min ds2.n.toNat n' = J at *
              generalize dEat ds2 ((F.drop j).take J) = ds3 at *
              go_wp2_with fail
              refine FILL.out.mono ?_
              rintro e w7 ⟨A7, n7, c7, rfl, hn7, hb7, sb7, hd7, k7⟩
              rw [List.drop_drop] at hb7
              have B7 := Lib.hid hb7
              have D7 := Lib.hid hd7
              have NB7 := Lib.hid (HNB.out.of sb7)
              have K7 := Lib.hid (K6.out.trans k7 (T := fun k => W.heap.size ≤ k) (fun _ h => h) (fun x hx h => by omega))
              clear hb7 hd7 sb7 k7 FILL K6
              go_wp2
              go_roundw
              case rel => exact ⟨i + 1, j + J, ds3, A7, n7, c7, rfl, by go_num, by omega, BN.out, B7.out, NB7.out, D7.out, K7.out⟩
              case measure => simp [intOf]; omega
        · obtain rfl : n = i := by omega
          obtain ⟨hjF, hc0⟩ := hBK.fin HF.out
          obtain rfl : n' = 0 := by omega
          have CL := Lib.hid (dclean_any bd ds wr HD.out)
          have cb : dCleanB ds = true := decide_eq_true ⟨hn00, hc0⟩
          rw [cb] at CL
          clear cb hBK hc0 hjF hdi hlost hn00
          go_wp2_with fail
          refine CL.out.mono ?_
          rintro e w' ⟨rfl, rfl⟩
          go_wp2_with fail
          refine ND.out.mono ?_
          rintro e w' ⟨rfl, rfl⟩
          go_wp2
          go_ret
          exact ⟨by first | rfl | simp, HK.out.below (fun _ h hh => by omega)⟩
set_option maxRecDepth 100000 in
theorem DecoderBack_lifted (os : Os) (started : os.Started) (H : Type) (enc : TypeId × Value → H) :
    ReturnsInHanded {} Try.checked os 11 .any (Rows.decoderBackSpec.pre6 enc Try.prog Try.f11 Rows.decoderBackRow.domain false) (Rows.decoderBackSpec.post enc Try.prog Try.f11 false true false false) := by
  refine returnsInHanded_of_change (C := Try.checked) Try.own started (by kernel_rfl) Try.func11
    (ChangeSpec.witness6 (enc := enc) (C := Try.checked) false ⟨#[], #[.slice none 0 0, .slice none 0 0], []⟩ 8 (by kernel_rfl) (by kernel_rfl) (by kernel_rfl) (by kernel_rfl)) ?_
  intro W base args ds gs before hval0 hW hcnd _
  have hval : ∀ (j : Nat) t v, Try.f11.params[j]? = some t → args[j]? = some v → Value.okWide Try.prog W .any base t v := hval0
  have hW' := hW
  obtain ⟨p, q, hA0, hV, rfl, hfz, hnd⟩ := hW
  have hA : DataW.TrodAll enc Try.prog W 0 (fun _ => true) true Try.f11.params.toList args.toList ds p := hA0
  rw [Try.params11] at hA hval
  obtain ⟨v0, vs0, d0, ds0, p0, q0, hargs, rfl, rfl, h0, r0⟩ := trodAll_cons hA
  obtain ⟨v1, vs1, d1, ds1, p1, q1, rfl, rfl, rfl, h1, r1⟩ := trodAll_cons r0
  obtain ⟨rfl, rfl, rfl⟩ := trodAll_nil r1
  obtain rfl : args = #[v0, v1] := by cases args; simp_all
  obtain ⟨rfl, rfl⟩ := trodVars_none hV
  have k0 := h0
  have lt0 : ∀ x ∈ p0, x.block < W.heap.size := by obtain ⟨m, hm⟩ := k0; exact DataW.trod_lt m _ _ _ hm
  obtain ⟨a0, len0, cap0, rfl⟩ := okWide_slice Try.underlying54 (hval 0 54 v0 rfl rfl)
  obtain ⟨z0, l0, s0⟩ := open_bools' Try.underlying54 Try.underlying4 (by kernel_rfl) h0
  have k1 := h1
  have lt1 : ∀ x ∈ p1, x.block < W.heap.size := by obtain ⟨m, hm⟩ := k1; exact DataW.trod_lt m _ _ _ hm
  obtain ⟨a1, len1, cap1, rfl⟩ := okWide_slice Try.underlying55 (hval 1 55 v1 rfl rfl)
  obtain ⟨z1, l1, s1, w1⟩ := open_ints' Try.underlying55 Try.underlying3 (by kernel_rfl) h1
  clear hA0 hval0
  refine (back17_any a0 a1 len0 cap0 len1 cap1 z0 z1 W l0 s0 l1 s1).mono fun e W' ⟨he, bel⟩ => ?_
  subst he
  exact ⟨_, rfl, _, _, _, [], _, [], hW', trodAll_mk1 (shut_bool Try.underlying4 _), (trodAll_cons_mk (Below.trod Try.laidOut (by kernel_rfl) (of_decide_eq_true (by kernel_rfl)) k0 bel lt0) (trodAll_cons_mk (Below.trod Try.laidOut (by kernel_rfl) (of_decide_eq_true (by kernel_rfl)) k1 bel lt1) trodAll_mk0)), rfl, bel.frame _, fun h => by cases h⟩

set_option maxRecDepth 100000 in
theorem DecoderBack_closed : joinedFacts Try.checked.prog 11 Try.f11 Rows.decoderBackSpec Rows.decoderBackRow = true := by
  unfold joinedFacts
  rw [closed_laid, closed_maps, closed_heard, closed_plain, closed_mayEnter, closed_lifts, closed_make]
  kernel_rfl

theorem DecoderBack_holds : Rows.DecoderBackSaid :=
  OpenClaim.holds_of_wide 11 Try.f11 rfl rfl rfl rfl rfl rfl rfl ⟨rfl, rfl, rfl, rfl, rfl⟩ rfl rfl rfl rfl rfl (by kernel_rfl) Try.func11 DecoderBack_closed
    (of_decide_eq_true (by kernel_rfl)) (by unfold Func.isWrapper; first | (rw [if_pos (by decide +kernel)]; kernel_rfl) | (rw [if_neg (by decide +kernel)]; exact ⟨rfl, rfl⟩))
    (fun os started H enc _ => DecoderBack_lifted os started H enc)
#print axioms DecoderBack_holds
end Go.Proofs.Yteokbedjcnfgiaa
