
/- JournalCuts: where power goes while a record is appended. -/
import Derived.Test.YtgehkioneelgcaaJCuXJlCut
import Derived.Test.YtgehkioneelgcaaJCuXJlSame
import Derived.Test.YtgehkioneelgcaaJCuXJlArg
import Derived.Test.YtgehkioneelgcaaJCuXFrame
import Derived.Test.YtgehkioneelgcaaJCuXInit
namespace Go.Proofs.Ytgehkioneelgcaa
open Go.RowKit Go.ChangeShapes Go.WideShapes Go.Deep

theorem ljappendK {W w : World} {B q jb : Nat} {X : JX} {s : FS} {j : JS} {m : Nat} (h : LJ W w B q jb X s j) (ok : JOk j) (rm : JRm s m)
    (kind : Int) {A : Option Addr} {k cap : Nat} {body : List Int} (hb : Bs w A k cap body) (hk : k ≤ 140737488355328) :
    Calls Try.prog 16 #[.pointer (some ⟨jb, 0, none⟩), .int .i64 kind, .slice A k cap] w (LJDone W w B q jb X (appF s j kind body)) := by
  rw [← h.jbe]
  exact (jappend_any B q X s j kind A k cap body w h.at_ ok hb hk (by have := rm.st; omega)).mono fun e w' ⟨h1, X', t⟩ => ⟨h1, X', h.jbe ▸ h.next t, t⟩
/-- The flash alone went on. -/
theorem LJ.flash {W w w' : World} {B q jb : Nat} {X : JX} {s s' : FS} {j : JS} {L' : FL} (h : LJ W w B q jb X s j) (t : Turn w w' B X.L L' s') : LJ W w' B q jb { X with L := L' } s' j ∧ JTurn w w' B q X { X with L := L' } s' j :=
  ⟨h.next (h.at_.turn t), h.at_.turn t⟩
theorem Rws.takeR {w : World} {A : Option Addr} {n cap k : Nat} {rs : List RV} (h : Rws w A n cap rs) (hk : k ≤ n) : Rws w A k cap (rs.take k) :=
  ⟨by rw [List.length_take, h.len]; omega, Nat.le_trans hk h.le, h.max, fun e => ⟨by have := (h.nil e).1; omega, (h.nil e).2⟩, fun hn => by
    obtain ⟨b, off, e, hb, hc⟩ := h.at_ (by omega)
    refine ⟨b, off, e, hb, fun i r hr => hc i r ?_⟩
    rw [List.getElem?_take] at hr
    split at hr
    · exact hr
    · cases hr⟩
theorem Row.takeR {w : World} {X : JX} {A : Option Addr} {n cap k : Nat} {rs : List RV} (h : Row w X A n cap rs) (hk : k ≤ n) : Row w X A k cap (rs.take k) :=
  ⟨h.r.takeR hk, fun b off h0 e => h.ap b off (by omega) e, ⟨fun r hr => h.bd.bs r (List.mem_of_mem_take hr), fun r hr => h.bd.p r (List.mem_of_mem_take hr)⟩⟩
theorem app_again {s : FS} {n e : Nat} {c : Int} {l : List Rec} {T : List Int} {m : Nat} (h : Live s n e c l T (m + 1)) {kind : Int} {body : List Int} (hb : Byt body) (hf : kind ≠ 1 ∧ fitsR kind ((l.length : Int) + 1) body.length) :
    ∃ s' j' er, appF s (keptJ e c l T) kind body = (s', j', er) ∧ (er = 0 ∨ er = 14) := by
  rcases h.app kind body hb with ⟨h1, -⟩ | ⟨-, -, h1⟩ | ⟨s', -, -, -, -, h1, -⟩
  · rcases h1 with h1 | h1
    · exact absurd h1 hf.1
    · exact absurd hf.2 h1
  · exact ⟨_, _, _, h1, .inr rfl⟩
  · exact ⟨_, _, _, h1, .inl rfl⟩
set_option maxRecDepth 100000 in
set_option maxHeartbeats 3200000 in
theorem cuts_any (A0 A1 A2 : Option Addr) (n0 c0 m1 c1 m2 c2 : Nat) (rs : List RV) (zs ps : List Int) (kind after : Int) (W : World) (h0 : Bss W A0 n0 c0 rs) (h1 : Bs W A1 m1 c1 zs) (h2 : Bs W A2 m2 c2 ps) (hx : after ≤ 9223372036854775807) :
    Calls Try.prog 5 #[.slice A0 n0 c0, .int .i64 kind, .slice A1 m1 c1, .int .i64 after, .slice A2 m2 c2] W fun e W' => e = .returned (.bool true) ∧ Below W.heap.size W W' := by
  have l0 := h0.le
  have x0 := h0.max
  have l1 := h1.le
  have x1 := h1.max
  have l2 := h2.le
  have x2 := h2.max
  have H0 := Lib.hid h0
  have H1 := Lib.hid h1
  have H2 := Lib.hid h2
  have HX := Lib.hid hx
  have L0 := Lib.hid h0.len
  have L1 := Lib.hid h1.len
  have AL := Lib.hid (alive22_any W)
  clear h0 h1 h2 hx
  go_enter Try.func5, Try.ntmps5
  go_wp2_with fail
  refine AL.out.mono ?_
  rintro e w1 ⟨rfl, k1⟩
  by_cases g1 : 12 < n0
  · have d1 : decide (12 < (n0 : Int)) = true := decide_eq_true (by omega)
    go_wp2
    go_ret
    exact ⟨rfl, k1.below (fun _ _ h => h)⟩
  have d1 : decide (12 < (n0 : Int)) = false := decide_eq_false (by omega)
  by_cases g2 : 200 < m1
  · have d2 : decide (200 < (m1 : Int)) = true := decide_eq_true (by omega)
    go_wp2
    go_ret
    exact ⟨rfl, k1.below (fun _ _ h => h)⟩
  have d2 : decide (200 < (m1 : Int)) = false := decide_eq_false (by omega)
  by_cases g3 : kind < 2
  · have d3 : decide (kind < 2) = true := decide_eq_true (by omega)
    go_wp2
    go_ret
    exact ⟨rfl, k1.below (fun _ _ h => h)⟩
  have d3 : decide (kind < 2) = false := decide_eq_false (by omega)
  by_cases g4 : 250 < kind
  · have d4 : decide (250 < kind) = true := decide_eq_true (by omega)
    go_wp2
    go_ret
    exact ⟨rfl, k1.below (fun _ _ h => h)⟩
  have d4 : decide (250 < kind) = false := decide_eq_false (by omega)
  by_cases g5 : after < 0
  · have d5 : decide (after < 0) = true := decide_eq_true (by omega)
    go_wp2
    go_ret
    exact ⟨rfl, k1.below (fun _ _ h => h)⟩
  have d5 : decide (after < 0) = false := decide_eq_false (by omega)
  by_cases g6 : 8 < m2
  · have d6 : decide (8 < (m2 : Int)) = true := decide_eq_true (by omega)
    go_wp2
    go_ret
    exact ⟨rfl, k1.below (fun _ _ h => h)⟩
  have d6 : decide (8 < (m2 : Int)) = false := decide_eq_false (by omega)
  obtain ⟨s1, p1, p2, p3, p4, p5, p6, p7⟩ := alive22_plain
  have V0 := Lib.hid (Live.new 2 (by decide) (by decide))
  have NW := Lib.hid (lnew k1 ((2 : Nat) : Int))
  have CI0 := Lib.hid (CI.new p7)
  have OPN := Lib.hid (fun (w : World) B q L (h : LF W w B q L (newF ((2 : Nat) : Int))) => V0.out.opened h)
  have CMP := Lib.hid (fun (w : World) B q jb X (h : LJ W w B q jb X (newF ((2 : Nat) : Int)) (keptJ 0 (-1) [] [])) => ljcompact h V0.out (m := 99) (A := none) (k := 0) (cap := 0) (rs := []) (P := fun _ => True) (Rws.none w) (Bds.nil _ _) (by decide) (fun r hr => by cases hr))
  rw [show ([] : List RV).map RV.r = [] from rfl, p1] at CMP
  have GG : Hid (n0 ≤ 12 ∧ m1 ≤ 200 ∧ 2 ≤ kind ∧ kind ≤ 250 ∧ 0 ≤ after ∧ m2 ≤ 8) := ⟨by omega, by omega, by omega, by omega, by omega, by omega⟩
  clear p1 p2 p3 p4 p5 p6 p7 AL k1 g1 g2 g3 g4 g5 g6
  generalize newF ((2 : Nat) : Int) = f0 at *
  go_wp2_with fail
  refine NW.out.mono ?_
  rintro e w2 ⟨q, L, rfl, hF⟩
  have HF := Lib.hid hF
  clear hF NW
  go_wp2_with fail
  refine (OPN.out _ _ _ _ HF.out).mono ?_
  rintro e w3 ⟨X, jb, rfl, h3, -, -⟩
  have H3 := Lib.hid h3
  clear h3 HF OPN
  go_wp2_with fail
  refine (CMP.out _ _ _ _ _ H3.out).mono ?_
  rintro e w4 ⟨rfl, X4, h4, -⟩
  have H4 : Hid (LJ W w4 w1.heap.size q jb X4 s1 (keptJ 1 0 [] (blk (1008 - (pkL []).length)))) := h4
  clear h4 H3 CMP
  go_wp2_with fail
  refine (num22_any _ _).mono ?_
  rintro e w5 ⟨rfl, rfl⟩
  obtain ⟨B, hB⟩ : ∃ x, w1.heap.size = x := ⟨_, rfl⟩
  rw [hB] at H4
  clear hB V0
  go_wp2
  clear d1 d2 d3 d4 d5 d6
  go_loopw [14] (fun iv wr => ∃ (i : Nat) (X : JX) (s : FS) (l : List Rec), i ≤ n0 ∧ iv = .int .i64 i ∧ CI s i l ∧ LJ W wr B q jb X s (keptJ 1 0 l (blk (1008 - (pkL l).length)))) (fun iv _ => n0 - (intOf iv).toNat)
  case atStart => exact ⟨0, X4, s1, [], Nat.zero_le _, rfl, CI0.out, H4.out⟩
  case round =>
    obtain ⟨i, X5, s5, l5, hi, rfl, hc, hj⟩ := hrel
    have HC := Lib.hid hc
    have HJ := Lib.hid hj
    clear hc hj H4 CI0
    have G1 := GG.out.1
    by_cases hlt : i < n0
    · have hir : i < rs.length := by rw [L0.out]; exact hlt
      obtain ⟨r, hr0⟩ : ∃ r, rs[i] = r := ⟨_, rfl⟩
      have hget : rs[i]? = some r := by rw [List.getElem?_eq_getElem hir, hr0]
      obtain ⟨gb, off, rfl, hgb, hcel⟩ := H0.out.at_ (by omega)
      have y0 := hcel i r hget
      rw [← HJ.out.keeps.cell hgb (fun h => h)] at y0
      have BR := Lib.hid ((H0.out.bs r (List.mem_of_getElem? hget)).keeps HJ.out.keeps (fun _ _ _ _ _ h => h))
      have AP := Lib.hid (fun (hl : r.b.length ≤ 60) => HC.out.step (by omega) BR.out.byte hl)
      have br1 := BR.out.le
      have br2 := BR.out.max
      unfold RV.v at y0
      obtain ⟨rn, hrn⟩ : ∃ z, r.b.length = z := ⟨_, rfl⟩
      rw [hrn] at y0 BR AP br1
      clear hget hcel hgb hr0 hir hrn
      by_cases g60 : 60 < rn
      · have d60 : decide (60 < (rn : Int)) = true := decide_eq_true (by omega)
        go_wp2
        go_ret
        exact ⟨rfl, HJ.out.keeps.below (fun _ _ h => h)⟩
      · have d60 : decide (60 < (rn : Int)) = false := decide_eq_false (by omega)
        obtain ⟨s6, l6, e6, c6⟩ := AP.out (by omega)
        have C6 := Lib.hid c6
        have APP := Lib.hid (ljappend HJ.out HC.out.live 3 BR.out (by omega))
        rw [e6] at APP
        clear e6 c6 AP
        go_wp2_with fail
        refine APP.out.mono ?_
        rintro e w6 ⟨rfl, X6, h6, -⟩
        have H6 : Hid (LJ W w6 B q jb X6 s6 (keptJ 1 0 l6 (blk (1008 - (pkL l6).length)))) := h6
        clear h6 APP
        go_wp2_with fail
        refine (num22_any _ _).mono ?_
        rintro e w7 ⟨rfl, rfl⟩
        go_wp2
        go_roundw
        case rel => exact ⟨i + 1, X6, s6, l6, by omega, by go_num, C6.out, H6.out⟩
        case measure => simp [intOf]; omega
    · obtain rfl : i = n0 := by omega
      have PS := Lib.hid (cut_app (m := 50) (HC.out.live.less (by omega)) after H2.out.byte (kind := kind) (body := zs) H1.out.byte ⟨by have := GG.out; omega, by have := GG.out; omega, by have := GG.out; omega, by omega, by have := HC.out.ll; omega, by rw [L1.out]; have := GG.out; omega⟩)
      have OK5 := Lib.hid HC.out.live.keep.ok
      have RM5 := Lib.hid (HC.out.live.rm.arm after ps)
      have LL5 := Lib.hid HC.out.ll
      have NM5 := Lib.hid HC.out.num
      have JL5 : Hid ((keptJ 1 0 l5 (blk (1008 - (pkL l5).length))).l = l5) := by show _ = _; rw [keptJ_ge (by decide)]
      obtain ⟨s6, j6, er, l6, T6, p1, p2, p3, p4⟩ := PS.out
      have P1 := Lib.hid p1
      have V6 := Lib.hid p3
      have D6 := Lib.hid p4
      clear PS p1 p2 p3 p4 HC
      generalize keptJ 1 0 l5 (blk (1008 - (pkL l5).length)) = j5 at *
      go_wp2_with fail
      refine (ljall HJ.out OK5.out).mono ?_
      rw [JL5.out]
      rintro e w6 ⟨A6, c6, r6, rfl, hr6, hm6, k6⟩
      rw [LL5.out] at hr6 ⊢
      have R6 := Lib.hid hr6
      have M6 := Lib.hid hm6
      have J6 := Lib.hid (HJ.out.later k6)
      clear hr6 hm6 k6 HJ
      go_wp2_with fail
      refine (larm J6.out.lf (H2.out.keeps J6.out.keeps (fun _ _ _ _ _ h => h)) (by have := GG.out; omega) after HX.out).mono ?_
      rintro e w7 ⟨rfl, L7, -, t7⟩
      have J7 := Lib.hid (J6.out.flash t7).1
      have R7 := Lib.hid (R6.out.next (J6.out.flash t7).2)
      clear t7 J6 R6
      go_wp2_with fail
      refine (ljappendK J7.out OK5.out RM5.out kind (H1.out.keeps J7.out.keeps (fun _ _ _ _ _ h => h)) (by have := GG.out; omega)).mono ?_
      rw [P1.out]
      rintro e w8 ⟨rfl, X8, h8, t8⟩
      have J8 := Lib.hid h8
      have R8 := Lib.hid (R7.out.next t8)
      simp only [] at J8
      clear h8 t8 J7 R7
      go_wp2_with fail
      refine (lboot J8.out.lf).mono ?_
      rintro e w9 ⟨rfl, L9, -, t9⟩
      have J9 := Lib.hid (J8.out.flash t9).1
      have R9 := Lib.hid (R8.out.next (J8.out.flash t9).2)
      clear t9 J8 R8
      go_wp2_with fail
      refine (V6.out.opened J9.out.lf).mono ?_
      rintro e wA ⟨XA, jbA, rfl, hA, hAL, kA⟩
      have JA := Lib.hid hA
      have RA := Lib.hid (R9.out.opened hAL.2 kA)
      have JLA : Hid ((keptJ 1 0 l6 T6).l = l6) := by show _ = _; rw [keptJ_ge (by decide)]
      have OKA := Lib.hid V6.out.keep.ok
      clear hA kA hAL J9 R9
      go_wp2_with fail
      refine (ljall JA.out OKA.out).mono ?_
      rw [JLA.out]
      rintro e wB ⟨AB, cB, rB, rfl, hrB, hmB, kB⟩
      have RB := Lib.hid hrB
      have MB := Lib.hid hmB
      have JB := Lib.hid (JA.out.later kB)
      have RA2 := Lib.hid (RA.out.later kB)
      clear hrB hmB kB JA RA
      have lB := RB.out.r.le
      have xB := RB.out.r.max
      obtain ⟨l7, hl7⟩ : ∃ x, l6.length = x := ⟨_, rfl⟩
      rw [hl7] at RB lB ⊢
      rcases D6.out with ⟨hd, her⟩ | hd
      · have e7 : l7 = i := by rw [← hl7, hd, LL5.out]
        subst e7
        have d1 : ((l7 : Int) == (l7 : Int) + 1) = false := by simp; omega
        have d2 : (er == 0) = false := by simpa using her
        have NM6 : Hid (numR 0 l6 = l6) := by show _ = _; rw [hd]; exact NM5.out
        have ML : Hid (rB.map RV.r = l5) := by show _ = _; rw [← hd]; exact MB.out
        have RN := RB
        clear hd her hl7 D6
        go_wp2_with fail
        refine (num22_any _ _).mono ?_
        rintro e wX ⟨rfl, rfl⟩
        go_wp2_with fail
        -- RN : the records that are there now, without the one that was appended (rN); ML : rN's records are l5
        refine (ljall JB.out OKA.out).mono ?_
        rw [JLA.out]
        rintro e wC ⟨AC, cC, rC, rfl, hrC, hmC, kC⟩
        have RC := Lib.hid hrC
        have JC := Lib.hid (JB.out.later kC)
        have RA3 := Lib.hid (RA2.out.later kC)
        have RN3 := Lib.hid (RN.out.later kC)
        obtain ⟨s7, p7, v7⟩ := own_cmp (m := 48) (V6.out.less (by decide)) (by decide) NM6.out
        have V7 := Lib.hid v7
        have CMP := Lib.hid (ljcompact JC.out (m := 49) V6.out RC.out.r RC.out.bd (by have := OKA.out.ll; rw [JLA.out] at this; exact this) (fun r hr => by
          have h1 := OKA.out.bl r.r (by rw [JLA.out, ← hmC]; exact List.mem_map_of_mem hr)
          have h1 : r.b.length ≤ 512 := h1
          omega))
        rw [hmC, p7] at CMP
        obtain ⟨s8, j8, er8, p8, d8⟩ := app_again V7.out (kind := kind) (body := zs) H1.out.byte ⟨by have := GG.out; omega, by have := GG.out; omega, by have := GG.out; omega, by omega, by have := OKA.out.ll; rw [JLA.out] at this; omega, by rw [L1.out]; have := GG.out; omega⟩
        have P8 := Lib.hid p8
        have D8 := Lib.hid d8
        clear hrC hmC kC p7 v7 p8 d8 JB RA2 RN
        go_wp2_with fail
        refine CMP.out.mono ?_
        rintro e wD ⟨rfl, XD, hD, tD⟩
        have JD := Lib.hid hD
        have RA4 := Lib.hid (RA3.out.next tD)
        have RN4 := Lib.hid (RN3.out.next tD)
        simp only [] at JD
        clear hD tD JC RA3 RN3 CMP RC
        go_wp2_with fail
        refine (ljappend JD.out V7.out kind (H1.out.keeps JD.out.keeps (fun _ _ _ _ _ h => h)) (by have := GG.out; omega)).mono ?_
        rw [P8.out]
        rintro e wE ⟨rfl, XE, hE, tE⟩
        have JE := Lib.hid hE
        have RA5 := Lib.hid (RA4.out.next tE)
        have RN5 := Lib.hid (RN4.out.next tE)
        clear hE tE JD RA4 RN4
        have SME : Hid (decide (rB.map RV.r = r6.map RV.r) = true) := decide_eq_true (by rw [ML.out, M6.out])
        go_wp2_with fail
        refine (rsames_all _ _ _ _ _ _ _ _ _ _ _ RN5.out.r RA5.out.r RN5.out.bd RA5.out.bd).mono ?_
        rw [SME.out]
        rintro e wF ⟨rfl, kF⟩
        have JF := Lib.hid (JE.out.keeps.trans kF (T := None) (fun _ h => h) (fun _ _ h => h))
        clear kF RN5 RA5 JE
        go_wp2_with fail
        refine (num22_any _ _).mono ?_
        rintro e wG ⟨rfl, rfl⟩
        go_wp2_with fail
        refine (num22_any _ _).mono ?_
        rintro e wG ⟨rfl, rfl⟩
        rcases D8.out with rfl | rfl
        · go_wp2
          go_ret
          exact ⟨rfl, JF.out.below (fun _ _ h => h)⟩
        · go_wp2_with fail
          refine (num22_any _ _).mono ?_
          rintro e wG ⟨rfl, rfl⟩
          go_wp2
          go_ret
          exact ⟨rfl, JF.out.below (fun _ _ h => h)⟩
      · have e7 : l7 = i + 1 := by rw [← hl7, hd, List.length_append, LL5.out]; rfl
        subst e7
        obtain ⟨rx, hrx, hrr⟩ : ∃ rx, rB[i]? = some rx ∧ rx.r = ⟨kind, (l5.length : Int) + 1, zs⟩ := by
          have h1 : (rB.map RV.r)[i]? = some ⟨kind, (l5.length : Int) + 1, zs⟩ := by rw [MB.out, hd, List.getElem?_append_right (by rw [LL5.out]; exact Nat.le_refl _), LL5.out, Nat.sub_self]; rfl
          rw [List.getElem?_map] at h1
          cases h2 : rB[i]? with
          | none => rw [h2] at h1; cases h1
          | some rx => rw [h2] at h1; exact ⟨rx, rfl, by simpa using h1⟩
        have NM6 : Hid (numR 0 l6 = l6) := by show _ = _; rw [hd]; exact numR_push NM5.out _ _
        have ML : Hid ((rB.take i).map RV.r = l5) := by show _ = _; rw [List.map_take, MB.out, hd, ← LL5.out]; exact List.take_left' rfl
        have RN := Lib.hid (RB.out.takeR (k := i) (by omega))
        obtain ⟨rk, rsq, rA, rc, rb⟩ := rx
        have e1 : kind = rk := (congrArg Rec.k hrr).symm
        have e2 : zs = rb := (congrArg Rec.b hrr).symm
        subst e1 e2
        obtain ⟨gb, off, rfl, hgb, hc⟩ := RB.out.r.at_ (by omega)
        obtain ⟨x0', x1', x2'⟩ := hc i _ hrx
        have BX := RB.out.bd.bs _ (List.mem_of_getElem? hrx)
        unfold RV.v at x2'
        dsimp only at x0' x1' x2' BX
        rw [L1.out] at x2' BX
        have bx1 := BX.le
        have bx2 := BX.max
        have r1 := run_str (BX.alloc (.cells #[.int .i64 kind, .int .i64 rsq, .slice rA m1 rc] 40))
        have r2 := run_str ((H1.out.keeps JB.out.keeps (fun _ _ _ _ _ h => h)).alloc (.cells #[.int .i64 kind, .int .i64 rsq, .slice rA m1 rc] 40))
        clear hd hl7 D6 hrx hrr hc RB BX hgb
        go_wp2_with fail
        have JB2 := Lib.hid (JB.out.alloc (.cells #[.int .i64 kind, .int .i64 rsq, .slice rA m1 rc] 40))
        have RA3 := Lib.hid (RA2.out.later ((Keeps.refl None wB).alloc (.cells #[.int .i64 kind, .int .i64 rsq, .slice rA m1 rc] 40)))
        have RN3 := Lib.hid (RN.out.later ((Keeps.refl None wB).alloc (.cells #[.int .i64 kind, .int .i64 rsq, .slice rA m1 rc] 40)))
        clear JB RA2 RN r1 r2 x0' x1' x2'
        have JB := JB2
        have RA2 := RA3
        have RN := RN3
        clear JB2 RA3 RN3
        generalize wB.alloc (.cells #[.int .i64 kind, .int .i64 rsq, .slice rA m1 rc] 40) = wY at *
        -- RN : the records that are there now, without the one that was appended (rN); ML : rN's records are l5
        refine (ljall JB.out OKA.out).mono ?_
        rw [JLA.out]
        rintro e wC ⟨AC, cC, rC, rfl, hrC, hmC, kC⟩
        have RC := Lib.hid hrC
        have JC := Lib.hid (JB.out.later kC)
        have RA3 := Lib.hid (RA2.out.later kC)
        have RN3 := Lib.hid (RN.out.later kC)
        obtain ⟨s7, p7, v7⟩ := own_cmp (m := 48) (V6.out.less (by decide)) (by decide) NM6.out
        have V7 := Lib.hid v7
        have CMP := Lib.hid (ljcompact JC.out (m := 49) V6.out RC.out.r RC.out.bd (by have := OKA.out.ll; rw [JLA.out] at this; exact this) (fun r hr => by
          have h1 := OKA.out.bl r.r (by rw [JLA.out, ← hmC]; exact List.mem_map_of_mem hr)
          have h1 : r.b.length ≤ 512 := h1
          omega))
        rw [hmC, p7] at CMP
        obtain ⟨s8, j8, er8, p8, d8⟩ := app_again V7.out (kind := kind) (body := zs) H1.out.byte ⟨by have := GG.out; omega, by have := GG.out; omega, by have := GG.out; omega, by omega, by have := OKA.out.ll; rw [JLA.out] at this; omega, by rw [L1.out]; have := GG.out; omega⟩
        have P8 := Lib.hid p8
        have D8 := Lib.hid d8
        clear hrC hmC kC p7 v7 p8 d8 JB RA2 RN
        go_wp2_with fail
        refine CMP.out.mono ?_
        rintro e wD ⟨rfl, XD, hD, tD⟩
        have JD := Lib.hid hD
        have RA4 := Lib.hid (RA3.out.next tD)
        have RN4 := Lib.hid (RN3.out.next tD)
        simp only [] at JD
        clear hD tD JC RA3 RN3 CMP RC
        go_wp2_with fail
        refine (ljappend JD.out V7.out kind (H1.out.keeps JD.out.keeps (fun _ _ _ _ _ h => h)) (by have := GG.out; omega)).mono ?_
        rw [P8.out]
        rintro e wE ⟨rfl, XE, hE, tE⟩
        have JE := Lib.hid hE
        have RA5 := Lib.hid (RA4.out.next tE)
        have RN5 := Lib.hid (RN4.out.next tE)
        clear hE tE JD RA4 RN4
        have SME : Hid (decide ((rB.take i).map RV.r = r6.map RV.r) = true) := decide_eq_true (by rw [ML.out, M6.out])
        go_wp2_with fail
        refine (rsames_all _ _ _ _ _ _ _ _ _ _ _ RN5.out.r RA5.out.r RN5.out.bd RA5.out.bd).mono ?_
        rw [SME.out]
        rintro e wF ⟨rfl, kF⟩
        have JF := Lib.hid (JE.out.keeps.trans kF (T := None) (fun _ h => h) (fun _ _ h => h))
        clear kF RN5 RA5 JE
        go_wp2_with fail
        refine (num22_any _ _).mono ?_
        rintro e wG ⟨rfl, rfl⟩
        go_wp2_with fail
        refine (num22_any _ _).mono ?_
        rintro e wG ⟨rfl, rfl⟩
        rcases D8.out with rfl | rfl
        · go_wp2
          go_ret
          exact ⟨rfl, JF.out.below (fun _ _ h => h)⟩
        · go_wp2_with fail
          refine (num22_any _ _).mono ?_
          rintro e wG ⟨rfl, rfl⟩
          go_wp2
          go_ret
          exact ⟨rfl, JF.out.below (fun _ _ h => h)⟩
theorem cuts_law (A0 A1 A2 : Option Addr) (n0 c0 m1 c1 m2 c2 : Nat) (rs : List RV) (zs ps : List Int) (kind after : Int) (W : World) (h0 : Bss W A0 n0 c0 rs) (h1 : Bs W A1 m1 c1 zs) (h2 : Bs W A2 m2 c2 ps) (hx : (Lit.int .i64 after).wf = true) :
    Calls Try.prog 5 #[.slice A0 n0 c0, .int .i64 kind, .slice A1 m1 c1, .int .i64 after, .slice A2 m2 c2] W fun e W' => e = .returned (.bool true) ∧ Below W.heap.size W W' :=
  cuts_any A0 A1 A2 n0 c0 m1 c1 m2 c2 rs zs ps kind after W h0 h1 h2 (wf_i64_bd hx).2
set_option maxRecDepth 100000 in
theorem JournalCuts_lifted (os : Os) (started : os.Started) (H : Type) (enc : TypeId × Value → H) :
    ReturnsInHanded {} Try.checked os 5 .any (Rows.journalCutsSpec.pre6 enc Try.prog Try.f5 Rows.journalCutsRow.domain false) (Rows.journalCutsSpec.post enc Try.prog Try.f5 false true false false) := by
  refine returnsInHanded_of_change (C := Try.checked) Try.own started (by kernel_rfl) Try.func5
    (ChangeSpec.witness6 (enc := enc) (C := Try.checked) false ⟨#[], #[.slice none 0 0, .int .i64 0, .slice none 0 0, .int .i64 0, .slice none 0 0], []⟩ 8 (by kernel_rfl) (by kernel_rfl) (by kernel_rfl) (by kernel_rfl)) ?_
  intro W base args ds gs before hval0 hW hcnd _
  have hval : ∀ (j : Nat) t v, Try.f5.params[j]? = some t → args[j]? = some v → Value.okWide Try.prog W .any base t v := hval0
  have hW' := hW
  obtain ⟨p, q, hA0, hV, rfl, hfz, hnd⟩ := hW
  have hA : DataW.TrodAll enc Try.prog W 0 (fun _ => true) true Try.f5.params.toList args.toList ds p := hA0
  rw [Try.params5] at hA hval
  obtain ⟨v0, vs0, d0, ds0, p0, q0, hargs, rfl, rfl, h0, r0⟩ := trodAll_cons hA
  obtain ⟨v1, vs1, d1, ds1, p1, q1, rfl, rfl, rfl, h1, r1⟩ := trodAll_cons r0
  obtain ⟨v2, vs2, d2, ds2, p2, q2, rfl, rfl, rfl, h2, r2⟩ := trodAll_cons r1
  obtain ⟨v3, vs3, d3, ds3, p3, q3, rfl, rfl, rfl, h3, r3⟩ := trodAll_cons r2
  obtain ⟨v4, vs4, d4, ds4, p4, q4, rfl, rfl, rfl, h4, r4⟩ := trodAll_cons r3
  obtain ⟨rfl, rfl, rfl⟩ := trodAll_nil r4
  obtain rfl : args = #[v0, v1, v2, v3, v4] := by cases args; simp_all
  obtain ⟨rfl, rfl⟩ := trodVars_none hV
  have k0 := h0
  have lt0 : ∀ x ∈ p0, x.block < W.heap.size := by obtain ⟨m, hm⟩ := k0; exact DataW.trod_lt m _ _ _ hm
  obtain ⟨a0, len0, cap0, rfl⟩ := okWide_slice Try.underlying43 (hval 0 43 v0 rfl rfl)
  obtain ⟨z0, s0⟩ := open_bss h0
  have k1 := h1
  have lt1 : ∀ x ∈ p1, x.block < W.heap.size := by obtain ⟨m, hm⟩ := k1; exact DataW.trod_lt m _ _ _ hm
  obtain ⟨a1, rfl, rfl, rfl, w1⟩ := open_int Try.underlying3 (hval 1 3 v1 rfl rfl) h1
  have k2 := h2
  have lt2 : ∀ x ∈ p2, x.block < W.heap.size := by obtain ⟨m, hm⟩ := k2; exact DataW.trod_lt m _ _ _ hm
  obtain ⟨a2, len2, cap2, rfl⟩ := okWide_slice Try.underlying24 (hval 2 24 v2 rfl rfl)
  obtain ⟨z2, s2⟩ := open_bs h2
  have k3 := h3
  have lt3 : ∀ x ∈ p3, x.block < W.heap.size := by obtain ⟨m, hm⟩ := k3; exact DataW.trod_lt m _ _ _ hm
  obtain ⟨a3, rfl, rfl, rfl, w3⟩ := open_int Try.underlying3 (hval 3 3 v3 rfl rfl) h3
  have k4 := h4
  have lt4 : ∀ x ∈ p4, x.block < W.heap.size := by obtain ⟨m, hm⟩ := k4; exact DataW.trod_lt m _ _ _ hm
  obtain ⟨a4, len4, cap4, rfl⟩ := okWide_slice Try.underlying24 (hval 4 24 v4 rfl rfl)
  obtain ⟨z4, s4⟩ := open_bs h4
  clear hA0 hval0
  refine (cuts_law a0 a2 a4 len0 cap0 len2 cap2 len4 cap4 z0 z2 z4 a1 a3 W s0 s2 s4 w3).mono fun e W' ⟨he, bel⟩ => ?_
  subst he
  exact ⟨_, rfl, _, _, _, [], _, [], hW', trodAll_mk1 (shut_bool Try.underlying4 _), (trodAll_cons_mk (Below.trod Try.laidOut (by kernel_rfl) (of_decide_eq_true (by kernel_rfl)) k0 bel lt0) (trodAll_cons_mk (Below.trod Try.laidOut (by kernel_rfl) (of_decide_eq_true (by kernel_rfl)) k1 bel lt1) (trodAll_cons_mk (Below.trod Try.laidOut (by kernel_rfl) (of_decide_eq_true (by kernel_rfl)) k2 bel lt2) (trodAll_cons_mk (Below.trod Try.laidOut (by kernel_rfl) (of_decide_eq_true (by kernel_rfl)) k3 bel lt3) (trodAll_cons_mk (Below.trod Try.laidOut (by kernel_rfl) (of_decide_eq_true (by kernel_rfl)) k4 bel lt4) trodAll_mk0))))), rfl, bel.frame _, fun h => by cases h⟩

set_option maxRecDepth 100000 in
theorem JournalCuts_closed : joinedFacts Try.checked.prog 5 Try.f5 Rows.journalCutsSpec Rows.journalCutsRow = true := by
  unfold joinedFacts
  rw [closed_laid, closed_maps, closed_heard, closed_plain, closed_mayEnter, closed_lifts, closed_make]
  kernel_rfl

theorem JournalCuts_holds : Rows.JournalCutsSaid :=
  OpenClaim.holds_of_wide 5 Try.f5 rfl rfl rfl rfl rfl rfl rfl ⟨rfl, rfl, rfl, rfl, rfl⟩ rfl rfl rfl rfl rfl (by kernel_rfl) Try.func5 JournalCuts_closed
    (of_decide_eq_true (by kernel_rfl)) (by unfold Func.isWrapper; first | (rw [if_pos (by decide +kernel)]; kernel_rfl) | (rw [if_neg (by decide +kernel)]; exact ⟨rfl, rfl⟩))
    (fun os started H enc _ => JournalCuts_lifted os started H enc)
#print axioms JournalCuts_holds
end Go.Proofs.Ytgehkioneelgcaa
