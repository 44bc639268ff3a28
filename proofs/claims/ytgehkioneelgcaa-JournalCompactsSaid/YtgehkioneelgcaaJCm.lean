
/- JournalCompacts: where power goes while records take the place of others there are those, or these, however often it goes. -/
import Derived.Test.YtgehkioneelgcaaJCmXJlCm
import Derived.Test.YtgehkioneelgcaaJCmXJlFits
import Derived.Test.YtgehkioneelgcaaJCuXJlArg
import Derived.Test.YtgehkioneelgcaaJCmXJlSized
import Derived.Test.YtgehkioneelgcaaJCuXFrame
import Derived.Test.YtgehkioneelgcaaJCuXInit
namespace Go.Proofs.Ytgehkioneelgcaa
open Go.RowKit Go.ChangeShapes Go.WideShapes Go.Deep

theorem ljcompactK {W w : World} {B q jb : Nat} {X : JX} {s : FS} {j : JS} {m : Nat} (h : LJ W w B q jb X s j) (ok : JOk j) (hn : 2 ≤ X.L.n) (rm : JRm s (m + 1625))
    {A : Option Addr} {k cap : Nat} {rs : List RV} {P : Nat → Prop} (hr : Rws w A k cap rs) (hb : Bds w P rs) (hk : k ≤ 100000) (hbl : ∀ r ∈ rs, r.b.length ≤ 140737488355328) :
    Calls Try.prog 10 #[.pointer (some ⟨jb, 0, none⟩), .slice A k cap] w (LJDone W w B q jb X (cmpF s j (rs.map RV.r))) := by
  rw [← h.jbe]
  exact (jcompact_any B q X s j A k cap rs P w h.at_ hn ok hr hb hk hbl (rm.room 2001 (by decide))).mono fun e w' ⟨h1, X', t⟩ => ⟨h1, X', h.jbe ▸ h.next t, t⟩
theorem LJ.flash2 {W w w' : World} {B q jb : Nat} {X : JX} {s s' : FS} {j : JS} {L' : FL} (h : LJ W w B q jb X s j) (t : Turn w w' B X.L L' s') : LJ W w' B q jb { X with L := L' } s' j ∧ JTurn w w' B q X { X with L := L' } s' j :=
  ⟨h.next (h.at_.turn t), h.at_.turn t⟩
/-- What the law's loop keeps. -/
structure CL (W w : World) (B q jb : Nat) (X : JX) (s : FS) (e : Nat) (c : Int) (one : List Rec) (T : List Int) (i : Nat) (A : Option Addr) (n cp : Nat) (r : List RV) : Prop where
  live : Live s 2 e c one T (99 - i)
  le : e ≤ i + 1
  lj : LJ W w B q jb X s (keptJ e c one T)
  row : Row w X A n cp r
  mp : r.map RV.r = one
  ll : one.length = n
set_option maxRecDepth 100000 in
set_option maxHeartbeats 3200000 in
theorem compacts_any (A0 A1 A2 A3 : Option Addr) (n0 c0 n1 c1 n2 c2 n3 c3 : Nat) (rs ms : List RV) (ns ps : List Int) (W : World) (h0 : Rws W A0 n0 c0 rs) (b0 : Bds W (fun _ => True) rs) (l0 : ∀ r ∈ rs, r.b.length ≤ 140737488355328)
    (h1 : Rws W A1 n1 c1 ms) (b1 : Bds W (fun _ => True) ms) (l1 : ∀ r ∈ ms, r.b.length ≤ 140737488355328) (h2 : IsSl W A2 n2 c2 1 (ns.map (.int .i64))) (w2 : ∀ z ∈ ns, -9223372036854775808 ≤ z ∧ z ≤ 9223372036854775807) (h3 : Bs W A3 n3 c3 ps) :
    Calls Try.prog 3 #[.slice A0 n0 c0, .slice A1 n1 c1, .slice A2 n2 c2, .slice A3 n3 c3] W fun e W' => e = .returned (.bool true) ∧ Below W.heap.size W W' := by
  have y0 := h0.le
  have x0 := h0.max
  have y1 := h1.le
  have x1 := h1.max
  have y2 := h2.2.1
  have x2 := h2.2.2.1
  have y3 := h3.le
  have x3 := h3.max
  have H0 := Lib.hid h0
  have H1 := Lib.hid h1
  have H2 := Lib.hid h2
  have HP := Lib.hid h3
  have HB0 := Lib.hid b0
  have HB1 := Lib.hid b1
  have HL0 := Lib.hid l0
  have HL1 := Lib.hid l1
  have HW2 := Lib.hid w2
  have L0 := Lib.hid h0.len
  have L1 := Lib.hid h1.len
  have AL := Lib.hid (alive22_any W)
  clear h0 h1 h2 h3 b0 b1 l0 l1 w2
  go_enter Try.func3, Try.ntmps3
  go_wp2_with fail
  refine AL.out.mono ?_
  rintro e w1 ⟨rfl, k1⟩
  have V0 := Lib.hid (Live.new 2 (by decide) (by decide))
  have NW := Lib.hid (lnew k1 ((2 : Nat) : Int))
  have OPN := Lib.hid (fun (w : World) B q L (h : LF W w B q L (newF ((2 : Nat) : Int))) => V0.out.opened h)
  have CMP := Lib.hid (fun (w : World) B q jb X (h : LJ W w B q jb X (newF ((2 : Nat) : Int)) (keptJ 0 (-1) [] [])) => ljcompact h V0.out (m := 99) (H0.out.later h.keeps) (HB0.out.later h.keeps))
  have CS := Lib.hid (V0.out.cmp (m := 99) (by decide) (rs.map RV.r) (fun r hr => by
    obtain ⟨x, hx, rfl⟩ := List.mem_map.1 hr
    exact (HB0.out.bs x hx).byte))
  clear AL k1
  generalize newF ((2 : Nat) : Int) = f0 at *
  go_wp2_with fail
  refine NW.out.mono ?_
  rintro e w2 ⟨q, L, rfl, hF⟩
  have HF := Lib.hid hF
  clear hF NW
  go_wp2_with fail
  refine (OPN.out _ _ _ _ HF.out).mono ?_
  rintro e w3 ⟨X, jb, rfl, h3, -, -⟩
  have H3 := Lib.hid h3
  clear h3 HF OPN
  by_cases g1 : 8 < n0
  · have d1 : decide (8 < (n0 : Int)) = true := decide_eq_true (by omega)
    go_wp2
    go_ret
    exact ⟨rfl, H3.out.keeps.below (fun _ _ h => h)⟩
  have d1 : decide (8 < (n0 : Int)) = false := decide_eq_false (by omega)
  by_cases g2 : 8 < n1
  · have d2 : decide (8 < (n1 : Int)) = true := decide_eq_true (by omega)
    go_wp2
    go_ret
    exact ⟨rfl, H3.out.keeps.below (fun _ _ h => h)⟩
  have d2 : decide (8 < (n1 : Int)) = false := decide_eq_false (by omega)
  by_cases g3 : 10 < n2
  · have d3 : decide (10 < (n2 : Int)) = true := decide_eq_true (by omega)
    go_wp2
    go_ret
    exact ⟨rfl, H3.out.keeps.below (fun _ _ h => h)⟩
  have d3 : decide (10 < (n2 : Int)) = false := decide_eq_false (by omega)
  by_cases g4 : 1024 < n3
  · have d4 : decide (1024 < (n3 : Int)) = true := decide_eq_true (by omega)
    go_wp2
    go_ret
    exact ⟨rfl, H3.out.keeps.below (fun _ _ h => h)⟩
  have d4 : decide (1024 < (n3 : Int)) = false := decide_eq_false (by omega)
  have GG : Hid (n0 ≤ 8 ∧ n1 ≤ 8 ∧ n2 ≤ 10 ∧ n3 ≤ 1024) := ⟨by omega, by omega, by omega, by omega⟩
  clear g1 g2 g3 g4
  go_wp2_with fail
  refine (CMP.out _ _ _ _ _ H3.out (by have := GG.out; omega) HL0.out).mono ?_
  rintro e w4 ⟨rfl, X4, h4, -⟩
  have OK0 := Lib.hid V0.out.keep.ok
  have JL0 := Lib.hid (keptJ_l V0.out.keep)
  rcases CS.out with ⟨-, c1⟩ | ⟨s1, -, -, -, c1, v1, -⟩
  · rw [c1] at h4 ⊢
    have H4 := Lib.hid h4
    simp only [] at H4
    clear c1 h4 CS CMP H3 V0
    go_wp2_with fail
    refine (num22_any _ _).mono ?_
    rintro e w5 ⟨rfl, rfl⟩
    go_wp2_with fail
    refine (ljall H4.out OK0.out).mono ?_
    rw [JL0.out]
    rintro e w6 ⟨A6, c6, r6, rfl, hr6, hm6, k6⟩
    have J6 := Lib.hid (H4.out.later k6)
    clear hr6 hm6 k6 H4
    go_wp2
    go_ret
    exact ⟨rfl, J6.out.keeps.below (fun _ _ h => h)⟩
  · rw [c1] at h4 ⊢
    have H4 := Lib.hid h4
    simp only [] at H4
    have V1 := Lib.hid v1
    have OK1 := Lib.hid v1.keep.ok
    have JL1 := Lib.hid (keptJ_l v1.keep)
    have L5 : Hid ((numR 0 (rs.map RV.r)).length = n0) := by show _ = _; rw [numR_len, List.length_map, L0.out]
    clear c1 h4 CS CMP H3 V0 v1
    go_wp2_with fail
    refine (num22_any _ _).mono ?_
    rintro e w5 ⟨rfl, rfl⟩
    go_wp2_with fail
    refine (ljall H4.out OK1.out).mono ?_
    rw [JL1.out]
    rintro e w6 ⟨A6, c6, r6, rfl, hr6, hm6, k6⟩
    rw [L5.out] at hr6 ⊢
    have R6 := Lib.hid hr6
    have M6 := Lib.hid hm6
    have J6 := Lib.hid (H4.out.later k6)
    clear hr6 hm6 k6 H4
    go_wp2
    clear d1 d2 d3 d4
    obtain ⟨B, hB⟩ : ∃ x, w1.heap.size = x := ⟨_, rfl⟩
    rw [hB] at J6
    clear hB
    have CL0 : Hid (CL W w6 B q jb X4 s1 (0 + 1) (nextZ (-1)) (numR 0 (rs.map RV.r)) (blk (1008 - (pkL (numR 0 (rs.map RV.r))).length)) 0 A6 n0 c6 r6) := ⟨V1.out, by omega, J6.out, R6.out, M6.out, L5.out⟩
    clear V1 J6 R6 M6 L5 OK1 JL1 OK0 JL0
    go_loopw [11, 12, 13, 14] (fun jv ov _ iv wr => ∃ (i jb : Nat) (X : JX) (s : FS) (e : Nat) (c : Int) (one : List Rec) (T : List Int) (A : Option Addr) (n cp : Nat) (r : List RV), i ≤ n2 ∧ iv = .int .i64 i ∧ jv = .pointer (some ⟨jb, 0, none⟩) ∧ ov = .slice A n cp ∧ CL W wr B q jb X s e c one T i A n cp r) (fun _ _ _ iv _ => n2 - (intOf iv).toNat)
    case atStart => exact ⟨0, _, _, _, _, _, _, _, _, _, _, _, Nat.zero_le _, rfl, rfl, rfl, CL0.out⟩
    case round =>
      obtain ⟨i, jb1, X1, s5, e5, cu5, l5, T5, A1, m1, cp1, r1, hi, rfl, rfl, rfl, hc⟩ := hrel
      obtain ⟨wv, rfl⟩ : ∃ x, x = wr := ⟨_, rfl⟩
      have J1 := Lib.hid hc.lj
      have R1 := Lib.hid hc.row
      have V1 := Lib.hid hc.live
      have E1 := Lib.hid hc.le
      have M1 := Lib.hid hc.mp
      have L1C := Lib.hid hc.ll
      have r1l := hc.row.r.le
      have r1x := hc.row.r.max
      clear hc CL0
      by_cases hlt : i < n2
      · obtain ⟨gb, off, rfl, hgb, hcel⟩ := H2.out.2.2.2 (by omega)
        have hl2 := H2.out.1
        rw [List.length_map, Nat.mul_one] at hl2
        have z0 := hcel i (by omega)
        obtain ⟨a, ha⟩ : ∃ a, ns[i]? = some a := ⟨_, List.getElem?_eq_getElem (by omega)⟩
        rw [List.getElem?_map, ha] at z0
        replace z0 : W.cell? ⟨gb, off + i, none⟩ = some (.int .i64 a) := z0
        rw [← J1.out.keeps.cell hgb (fun h => h)] at z0
        have AB2 := Lib.hid (HW2.out a (List.mem_of_getElem? ha))
        clear hcel ha hl2
        by_cases ga : a < 0
        · have da : decide (a < 0) = true := decide_eq_true ga
          go_wp2
          go_ret
          exact ⟨rfl, J1.out.keeps.below (fun _ _ h => h)⟩
        have da : decide (a < 0) = false := decide_eq_false ga
        have PS := Lib.hid (cut_cmp (m := 98 - i) (V1.out.less (by have := GG.out; omega)) a HP.out.byte (by have := E1.out; have := GG.out; omega) (recs := ms.map RV.r) (fun r hr => by
          obtain ⟨x, hx, rfl⟩ := List.mem_map.1 hr
          exact (HB1.out.bs x hx).byte))
        have OK1 := Lib.hid V1.out.keep.ok
        have JL1 := Lib.hid (keptJ_l V1.out.keep)
        have RM1 := Lib.hid (V1.out.rm.arm a ps)
        have N2 : Hid (2 ≤ X1.L.n) := by have h1 := J1.out.at_.f.el; rw [V1.out.g.el] at h1; show 2 ≤ _; omega
        generalize hj1 : keptJ e5 cu5 l5 T5 = j1 at *
        go_wp2_with fail
        refine (larm J1.out.lf (HP.out.keeps J1.out.keeps (fun _ _ _ _ _ h => h)) (by have := GG.out; omega) a AB2.out.2).mono ?_
        rintro e w7 ⟨rfl, L7, -, t7⟩
        have J7 := Lib.hid (J1.out.flash2 t7).1
        have R7 := Lib.hid (R1.out.next (J1.out.flash2 t7).2)
        have N7 : Hid (2 ≤ ({ X1 with L := L7 } : JX).L.n) := by have h1 := J7.out.at_.f.el; have h2 : (s5.armF a ps).er.length = 2 := by { have h3 := (V1.out.g.arm a HP.out.byte).el; exact h3 }; rw [h2] at h1; show 2 ≤ _; omega
        have CMP := Lib.hid (ljcompactK (m := 1) J7.out OK1.out N7.out (RM1.out.less (by have := GG.out; omega)) (H1.out.later J7.out.keeps) (HB1.out.later J7.out.keeps) (by have := GG.out; omega) HL1.out)
        clear t7 J1 R1 z0
        rcases PS.out with c1 | ⟨s6, j6, er, e6, cu6, l6, T6, c1, ne1, g6, v6, he6, hd6⟩
        · rw [c1] at CMP
          clear c1 PS
          go_wp2_with fail
          refine CMP.out.mono ?_
          rintro e w8 ⟨rfl, X8, h8, t8⟩
          have J8 := Lib.hid h8
          have R8 := Lib.hid (R7.out.next t8)
          simp only [] at J8
          clear h8 t8 J7 R7 CMP
          go_wp2_with fail
          refine (num22_any _ _).mono ?_
          rintro e wX ⟨rfl, rfl⟩
          go_wp2_with fail
          refine (ljall J8.out OK1.out).mono ?_
          rw [JL1.out]
          rintro e wB ⟨AB, cB, rB, rfl, hrB, hmB, kB⟩
          rw [L1C.out] at hrB ⊢
          have SM := Lib.hid (rsames_all _ _ _ _ _ _ _ _ _ _ _ hrB.r (R8.out.later kB).r hrB.bd (R8.out.later kB).bd)
          rw [hmB, decide_eq_true M1.out.symm] at SM
          have J9 := Lib.hid (J8.out.later kB)
          have lB := hrB.r.le
          have xB := hrB.r.max
          clear hrB hmB kB J8 R8
          go_wp2_with fail
          refine SM.out.mono ?_
          rintro e wC ⟨rfl, kC⟩
          have JC := Lib.hid (J9.out.later kC)
          clear kC J9 SM
          go_wp2
          go_ret
          exact ⟨rfl, JC.out.keeps.below (fun _ _ h => h)⟩
        · rw [c1] at CMP
          have V6 := Lib.hid v6
          have E6 : Hid (e6 ≤ i + 2) := by have := E1.out; show e6 ≤ _; omega
          have D6 := Lib.hid hd6
          have dn1 : (er == 1) = false := by simpa using ne1
          have OK6 := Lib.hid v6.keep.ok
          have JL6 := Lib.hid (keptJ_l v6.keep)
          clear c1 ne1 g6 v6 he6 hd6 PS OK1 JL1
          go_wp2_with fail
          refine CMP.out.mono ?_
          rintro e w8 ⟨rfl, X8, h8, t8⟩
          have J8 := Lib.hid h8
          have R8 := Lib.hid (R7.out.next t8)
          simp only [] at J8
          clear h8 t8 J7 R7 CMP
          go_wp2_with fail
          refine (num22_any _ _).mono ?_
          rintro e wX ⟨rfl, rfl⟩
          go_wp2_with fail
          refine (lboot J8.out.lf).mono ?_
          rintro e w9 ⟨rfl, L9, -, t9⟩
          have J9 := Lib.hid (J8.out.flash2 t9).1
          have R9 := Lib.hid (R8.out.next (J8.out.flash2 t9).2)
          clear t9 J8 R8
          go_wp2_with fail
          refine (V6.out.opened J9.out.lf).mono ?_
          rintro e wA ⟨XA, jbA, rfl, hA, hAL, kA⟩
          have JA := Lib.hid hA
          have RA := Lib.hid (R9.out.opened hAL.2 kA)
          clear hA kA hAL J9 R9
          go_wp2_with fail
          refine (ljall JA.out OK6.out).mono ?_
          rw [JL6.out]
          rintro e wB ⟨AB, cB, rB, rfl, hrB, hmB, kB⟩
          have MC := Lib.hid hmB
          have JC := Lib.hid (JA.out.later kB)
          have RC := Lib.hid hrB
          have NC := Lib.hid (RA.out.later kB)
          have SM := Lib.hid (rsames_all _ _ _ _ _ _ _ _ _ _ _ hrB.r (RA.out.later kB).r hrB.bd (RA.out.later kB).bd)
          rw [hmB, M1.out] at SM
          have lB := hrB.r.le
          have xB := hrB.r.max
          clear hrB hmB kB JA RA
          have LM : Hid ((numR 0 (ms.map RV.r)).length = n1) := by show _ = _; rw [numR_len, List.length_map, L1.out]
          obtain ⟨l7, hl7⟩ : ∃ x, Hid (l6.length = x) := ⟨_, rfl⟩
          rw [hl7.out] at RC lB SM ⊢
          have FBE : ∃ b, Hid (decide (l6 = numR 0 (ms.map RV.r)) = b) := ⟨_, rfl⟩
          obtain ⟨fb, FB⟩ := FBE
          have SBE : ∃ b, Hid (decide (l6 = l5) = b) := ⟨_, rfl⟩
          obtain ⟨sb, SB⟩ := SBE
          rw [SB.out] at SM
          cases fb with
          | true =>
            have hf := of_decide_eq_true FB.out
            have e7 : l7 = n1 := by rw [← hl7.out, hf, LM.out]
            subst e7
            have LL6 := hl7
            clear D6 hf hl7 LM
            cases hq : (er == 0) with
            | true =>
              cases sb with
              | true =>
                go_wp2_with fail
                refine (num22_any _ _).mono ?_
                rintro e wX ⟨rfl, rfl⟩
                go_wp2_with fail
                refine SM.out.mono ?_
                rintro e wF ⟨rfl, kF⟩
                have JF := Lib.hid (JC.out.later kF)
                have RF := Lib.hid (RC.out.later kF)
                have NF := Lib.hid (NC.out.later kF)
                have FT := Lib.hid (fits_all _ _ _ _ _ _ _ _ _ _ _ RF.out.r (H1.out.later JF.out.keeps) RF.out.bd (HB1.out.later JF.out.keeps))
                clear kF JC RC NC SM
                go_wp2_with fail
                refine FT.out.mono ?_
                rw [MC.out, FB.out]
                rintro e wG ⟨rfl, kG⟩
                have JG := Lib.hid (JF.out.later kG)
                have RG := Lib.hid (RF.out.later kG)
                have NG := Lib.hid (NF.out.later kG)
                have FT2 := Lib.hid (fits_all _ _ _ _ _ _ _ _ _ _ _ RG.out.r (H1.out.later JG.out.keeps) RG.out.bd (HB1.out.later JG.out.keeps))
                clear kG JF RF NF FT
                -- one = two
                go_wp2
                go_roundw
                case rel => exact ⟨i + 1, jbA, XA, _, e6, cu6, l6, T6, AB, l7, cB, rB, by omega, by go_num, rfl, rfl, ⟨V6.out.less (by omega), by have := E6.out; omega, JG.out, RG.out, MC.out, LL6.out⟩⟩
                case measure => simp [intOf]; omega
              | false =>
                go_wp2_with fail
                refine (num22_any _ _).mono ?_
                rintro e wX ⟨rfl, rfl⟩
                go_wp2_with fail
                refine SM.out.mono ?_
                rintro e wF ⟨rfl, kF⟩
                have JF := Lib.hid (JC.out.later kF)
                have RF := Lib.hid (RC.out.later kF)
                have NF := Lib.hid (NC.out.later kF)
                have FT := Lib.hid (fits_all _ _ _ _ _ _ _ _ _ _ _ RF.out.r (H1.out.later JF.out.keeps) RF.out.bd (HB1.out.later JF.out.keeps))
                clear kF JC RC NC SM
                go_wp2_with fail
                refine FT.out.mono ?_
                rw [MC.out, FB.out]
                rintro e wG ⟨rfl, kG⟩
                have JG := Lib.hid (JF.out.later kG)
                have RG := Lib.hid (RF.out.later kG)
                have NG := Lib.hid (NF.out.later kG)
                have FT2 := Lib.hid (fits_all _ _ _ _ _ _ _ _ _ _ _ RG.out.r (H1.out.later JG.out.keeps) RG.out.bd (HB1.out.later JG.out.keeps))
                clear kG JF RF NF FT
                go_wp2_with fail
                refine FT2.out.mono ?_
                rw [MC.out, FB.out]
                rintro e wH ⟨rfl, kH⟩
                have JH := Lib.hid (JG.out.later kH)
                have RH := Lib.hid (RG.out.later kH)
                have NH := Lib.hid (NG.out.later kH)
                clear kH JG RG NG FT2
                -- one = two
                go_wp2
                go_roundw
                case rel => exact ⟨i + 1, jbA, XA, _, e6, cu6, l6, T6, AB, l7, cB, rB, by omega, by go_num, rfl, rfl, ⟨V6.out.less (by omega), by have := E6.out; omega, JH.out, RH.out, MC.out, LL6.out⟩⟩
                case measure => simp [intOf]; omega
            | false =>
              cases sb with
              | true =>
                go_wp2_with fail
                refine (num22_any _ _).mono ?_
                rintro e wX ⟨rfl, rfl⟩
                go_wp2_with fail
                refine SM.out.mono ?_
                rintro e wF ⟨rfl, kF⟩
                have JF := Lib.hid (JC.out.later kF)
                have RF := Lib.hid (RC.out.later kF)
                have NF := Lib.hid (NC.out.later kF)
                have FT := Lib.hid (fits_all _ _ _ _ _ _ _ _ _ _ _ RF.out.r (H1.out.later JF.out.keeps) RF.out.bd (HB1.out.later JF.out.keeps))
                clear kF JC RC NC SM
                go_wp2_with fail
                refine FT.out.mono ?_
                rw [MC.out, FB.out]
                rintro e wG ⟨rfl, kG⟩
                have JG := Lib.hid (JF.out.later kG)
                have RG := Lib.hid (RF.out.later kG)
                have NG := Lib.hid (NF.out.later kG)
                have FT2 := Lib.hid (fits_all _ _ _ _ _ _ _ _ _ _ _ RG.out.r (H1.out.later JG.out.keeps) RG.out.bd (HB1.out.later JG.out.keeps))
                clear kG JF RF NF FT
                -- one = two
                go_wp2
                go_roundw
                case rel => exact ⟨i + 1, jbA, XA, _, e6, cu6, l6, T6, AB, l7, cB, rB, by omega, by go_num, rfl, rfl, ⟨V6.out.less (by omega), by have := E6.out; omega, JG.out, RG.out, MC.out, LL6.out⟩⟩
                case measure => simp [intOf]; omega
              | false =>
                go_wp2_with fail
                refine (num22_any _ _).mono ?_
                rintro e wX ⟨rfl, rfl⟩
                go_wp2_with fail
                refine SM.out.mono ?_
                rintro e wF ⟨rfl, kF⟩
                have JF := Lib.hid (JC.out.later kF)
                have RF := Lib.hid (RC.out.later kF)
                have NF := Lib.hid (NC.out.later kF)
                have FT := Lib.hid (fits_all _ _ _ _ _ _ _ _ _ _ _ RF.out.r (H1.out.later JF.out.keeps) RF.out.bd (HB1.out.later JF.out.keeps))
                clear kF JC RC NC SM
                go_wp2_with fail
                refine FT.out.mono ?_
                rw [MC.out, FB.out]
                rintro e wG ⟨rfl, kG⟩
                have JG := Lib.hid (JF.out.later kG)
                have RG := Lib.hid (RF.out.later kG)
                have NG := Lib.hid (NF.out.later kG)
                have FT2 := Lib.hid (fits_all _ _ _ _ _ _ _ _ _ _ _ RG.out.r (H1.out.later JG.out.keeps) RG.out.bd (HB1.out.later JG.out.keeps))
                clear kG JF RF NF FT
                go_wp2_with fail
                refine FT2.out.mono ?_
                rw [MC.out, FB.out]
                rintro e wH ⟨rfl, kH⟩
                have JH := Lib.hid (JG.out.later kH)
                have RH := Lib.hid (RG.out.later kH)
                have NH := Lib.hid (NG.out.later kH)
                clear kH JG RG NG FT2
                -- one = two
                go_wp2
                go_roundw
                case rel => exact ⟨i + 1, jbA, XA, _, e6, cu6, l6, T6, AB, l7, cB, rB, by omega, by go_num, rfl, rfl, ⟨V6.out.less (by omega), by have := E6.out; omega, JH.out, RH.out, MC.out, LL6.out⟩⟩
                case measure => simp [intOf]; omega
          | false =>
            have hf := of_decide_eq_false FB.out
            obtain ⟨ol, er0⟩ := D6.out.resolve_right hf
            have OL := Lib.hid ol
            have hq : (er == 0) = false := by simpa using er0
            obtain rfl : sb = true := by rw [← SB.out]; exact decide_eq_true ol
            clear D6 hf ol er0 LM
            by_cases e7 : l7 = n1
            · subst e7
              go_wp2_with fail
              refine (num22_any _ _).mono ?_
              rintro e wX ⟨rfl, rfl⟩
              go_wp2_with fail
              refine SM.out.mono ?_
              rintro e wF ⟨rfl, kF⟩
              have JF := Lib.hid (JC.out.later kF)
              have RF := Lib.hid (RC.out.later kF)
              have NF := Lib.hid (NC.out.later kF)
              have FT := Lib.hid (fits_all _ _ _ _ _ _ _ _ _ _ _ RF.out.r (H1.out.later JF.out.keeps) RF.out.bd (HB1.out.later JF.out.keeps))
              clear kF JC RC NC SM
              go_wp2_with fail
              refine FT.out.mono ?_
              rw [MC.out, FB.out]
              rintro e wG ⟨rfl, kG⟩
              have JG := Lib.hid (JF.out.later kG)
              have RG := Lib.hid (RF.out.later kG)
              have NG := Lib.hid (NF.out.later kG)
              have FT2 := Lib.hid (fits_all _ _ _ _ _ _ _ _ _ _ _ RG.out.r (H1.out.later JG.out.keeps) RG.out.bd (HB1.out.later JG.out.keeps))
              clear kG JF RF NF FT
              go_wp2
              go_roundw
              case rel => exact ⟨i + 1, jbA, XA, _, e6, cu6, l6, T6, A1, m1, cp1, r1, by omega, by go_num, rfl, rfl, ⟨V6.out.less (by omega), by have := E6.out; omega, JG.out, NG.out, by rw [OL.out]; exact M1.out, by rw [OL.out]; exact L1C.out⟩⟩
              case measure => simp [intOf]; omega
            · have d7 : ((l7 : Int) == (n1 : Int)) = false := by simp; omega
              go_wp2_with fail
              refine (num22_any _ _).mono ?_
              rintro e wX ⟨rfl, rfl⟩
              go_wp2_with fail
              refine SM.out.mono ?_
              rintro e wF ⟨rfl, kF⟩
              have JF := Lib.hid (JC.out.later kF)
              have RF := Lib.hid (RC.out.later kF)
              have NF := Lib.hid (NC.out.later kF)
              have FT := Lib.hid (fits_all _ _ _ _ _ _ _ _ _ _ _ RF.out.r (H1.out.later JF.out.keeps) RF.out.bd (HB1.out.later JF.out.keeps))
              clear kF JC RC NC SM
              go_wp2_with fail
              refine FT.out.mono ?_
              rw [MC.out, FB.out]
              rintro e wG ⟨rfl, kG⟩
              have JG := Lib.hid (JF.out.later kG)
              have RG := Lib.hid (RF.out.later kG)
              have NG := Lib.hid (NF.out.later kG)
              have FT2 := Lib.hid (fits_all _ _ _ _ _ _ _ _ _ _ _ RG.out.r (H1.out.later JG.out.keeps) RG.out.bd (HB1.out.later JG.out.keeps))
              clear kG JF RF NF FT
              go_wp2
              go_roundw
              case rel => exact ⟨i + 1, jbA, XA, _, e6, cu6, l6, T6, A1, m1, cp1, r1, by omega, by go_num, rfl, rfl, ⟨V6.out.less (by omega), by have := E6.out; omega, JG.out, NG.out, by rw [OL.out]; exact M1.out, by rw [OL.out]; exact L1C.out⟩⟩
              case measure => simp [intOf]; omega
      · obtain rfl : i = n2 := by omega
        go_wp2
        go_ret
        exact ⟨rfl, J1.out.keeps.below (fun _ _ h => h)⟩
set_option maxRecDepth 100000 in
theorem JournalCompacts_lifted (os : Os) (started : os.Started) (H : Type) (enc : TypeId × Value → H) :
    ReturnsInHanded {} Try.checked os 3 .any (Rows.journalCompactsSpec.pre6 enc Try.prog Try.f3 Rows.journalCompactsRow.domain false) (Rows.journalCompactsSpec.post enc Try.prog Try.f3 false true false false) := by
  refine returnsInHanded_of_change_sized (C := Try.checked) Try.own started (by kernel_rfl) Try.func3
    (ChangeSpec.witness6 (enc := enc) (C := Try.checked) false ⟨#[], #[.slice none 0 0, .slice none 0 0, .slice none 0 0, .slice none 0 0], []⟩ 8 (by kernel_rfl) (by kernel_rfl) (by kernel_rfl) (by kernel_rfl)) ?_
  intro W base args ds gs before hval0 hW hcnd hsz0 _
  have hsz : (DataW.weightsEach Try.prog (Try.f3.params.toList ++ []) (ds ++ gs)).all (· ≤ reachBytes) = true := hsz0
  have hval : ∀ (j : Nat) t v, Try.f3.params[j]? = some t → args[j]? = some v → Value.okWide Try.prog W .any base t v := hval0
  have hW' := hW
  obtain ⟨p, q, hA0, hV, rfl, hfz, hnd⟩ := hW
  have hA : DataW.TrodAll enc Try.prog W 0 (fun _ => true) true Try.f3.params.toList args.toList ds p := hA0
  rw [Try.params3] at hA hval hsz
  obtain ⟨v0, vs0, d0, ds0, p0, q0, hargs, rfl, rfl, h0, r0⟩ := trodAll_cons hA
  obtain ⟨v1, vs1, d1, ds1, p1, q1, rfl, rfl, rfl, h1, r1⟩ := trodAll_cons r0
  obtain ⟨v2, vs2, d2, ds2, p2, q2, rfl, rfl, rfl, h2, r2⟩ := trodAll_cons r1
  obtain ⟨v3, vs3, d3, ds3, p3, q3, rfl, rfl, rfl, h3, r3⟩ := trodAll_cons r2
  obtain ⟨rfl, rfl, rfl⟩ := trodAll_nil r3
  obtain rfl : args = #[v0, v1, v2, v3] := by cases args; simp_all
  obtain ⟨rfl, rfl⟩ := trodVars_none hV
  have k0 := h0
  have lt0 : ∀ x ∈ p0, x.block < W.heap.size := by obtain ⟨m, hm⟩ := k0; exact DataW.trod_lt m _ _ _ hm
  obtain ⟨a0, len0, cap0, rfl⟩ := okWide_slice Try.underlying22 (hval 0 22 v0 rfl rfl)
  obtain ⟨z0, s0, b0⟩ := open_recs h0
  have bl0 := recs_sized h0 (fun k hk => by have := List.all_eq_true.1 hsz k (DataW.weights_mem_each (j := 0) (t := 22) rfl rfl k hk); simpa using this) s0
  have k1 := h1
  have lt1 : ∀ x ∈ p1, x.block < W.heap.size := by obtain ⟨m, hm⟩ := k1; exact DataW.trod_lt m _ _ _ hm
  obtain ⟨a1, len1, cap1, rfl⟩ := okWide_slice Try.underlying22 (hval 1 22 v1 rfl rfl)
  obtain ⟨z1, s1, b1⟩ := open_recs h1
  have bl1 := recs_sized h1 (fun k hk => by have := List.all_eq_true.1 hsz k (DataW.weights_mem_each (j := 1) (t := 22) rfl rfl k hk); simpa using this) s1
  have k2 := h2
  have lt2 : ∀ x ∈ p2, x.block < W.heap.size := by obtain ⟨m, hm⟩ := k2; exact DataW.trod_lt m _ _ _ hm
  obtain ⟨a2, len2, cap2, rfl⟩ := okWide_slice Try.underlying23 (hval 2 23 v2 rfl rfl)
  obtain ⟨z2, l2, s2, w2⟩ := open_ints' Try.underlying23 Try.underlying3 (by kernel_rfl) h2
  have k3 := h3
  have lt3 : ∀ x ∈ p3, x.block < W.heap.size := by obtain ⟨m, hm⟩ := k3; exact DataW.trod_lt m _ _ _ hm
  obtain ⟨a3, len3, cap3, rfl⟩ := okWide_slice Try.underlying24 (hval 3 24 v3 rfl rfl)
  obtain ⟨z3, s3⟩ := open_bs h3
  clear hA0 hval0 hsz0
  refine (compacts_any a0 a1 a2 a3 len0 cap0 len1 cap1 len2 cap2 len3 cap3 z0 z1 z2 z3 W s0 b0 bl0 s1 b1 bl1 s2 (fun z hz => wf_i64_bd (w2 z hz)) s3).mono fun e W' ⟨he, bel⟩ => ?_
  subst he
  exact ⟨_, rfl, _, _, _, [], _, [], hW', trodAll_mk1 (shut_bool Try.underlying4 _), (trodAll_cons_mk (Below.trod Try.laidOut (by kernel_rfl) (of_decide_eq_true (by kernel_rfl)) k0 bel lt0) (trodAll_cons_mk (Below.trod Try.laidOut (by kernel_rfl) (of_decide_eq_true (by kernel_rfl)) k1 bel lt1) (trodAll_cons_mk (Below.trod Try.laidOut (by kernel_rfl) (of_decide_eq_true (by kernel_rfl)) k2 bel lt2) (trodAll_cons_mk (Below.trod Try.laidOut (by kernel_rfl) (of_decide_eq_true (by kernel_rfl)) k3 bel lt3) trodAll_mk0)))), rfl, bel.frame _, fun h => by cases h⟩

set_option maxRecDepth 100000 in
theorem JournalCompacts_closed : joinedFacts Try.checked.prog 3 Try.f3 Rows.journalCompactsSpec Rows.journalCompactsRow = true := by
  unfold joinedFacts
  rw [closed_laid, closed_maps, closed_heard, closed_plain, closed_mayEnter, closed_lifts, closed_make]
  kernel_rfl

theorem JournalCompacts_holds : Rows.JournalCompactsSaid :=
  OpenClaim.holds_of_wide 3 Try.f3 rfl rfl rfl rfl rfl rfl rfl ⟨rfl, rfl, rfl, rfl, rfl⟩ rfl rfl rfl rfl rfl (by kernel_rfl) Try.func3 JournalCompacts_closed
    (of_decide_eq_true (by kernel_rfl)) (by unfold Func.isWrapper; first | (rw [if_pos (by decide +kernel)]; kernel_rfl) | (rw [if_neg (by decide +kernel)]; exact ⟨rfl, rfl⟩))
    (fun os started H enc _ => JournalCompacts_lifted os started H enc)
#print axioms JournalCompacts_holds
end Go.Proofs.Ytgehkioneelgcaa
