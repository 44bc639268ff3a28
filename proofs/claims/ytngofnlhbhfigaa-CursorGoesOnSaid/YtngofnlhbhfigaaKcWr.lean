/- Bytes that are written in parts, with Flushes between. -/
import Derived.Test.YtngofnlhbhfigaaKcAlive
import Derived.Test.YtngofnlhbhfigaaFrame
namespace Go.Proofs.Ytngofnlhbhfigaa
open Go.RowKit Go.ChangeShapes Go.WideShapes

theorem Room.flush {f c : Nat} {s : FS} {k : KS} {m : Nat} (h : Room s (m + 264)) (hc : c ≤ 256) (hl : k.word.length = 8) (hn : k.n ≤ 8) : Room (flushK f c s k).1 m := by
  unfold flushK
  split
  · exact h.less (by omega)
  · exact Room.afterProg h hc hl hn
theorem KB.dropIf {w : World} {L : FL} {cb b off n cap k : Nat} {zs : List Int} (h : KB w L cb (some ⟨b, off, none⟩) n cap zs) (hk : k ≤ n) (hc : cap ≠ k) : KB w L cb (some ⟨b, off + k, none⟩) (n - k) (cap - k) (zs.drop k) :=
  ⟨h.bs.drop hk, fun b' off' h0 e => by cases e; exact h.ap b off (by omega) rfl⟩
theorem KB.dropAll {w : World} {L : FL} {cb b off n k : Nat} {zs : List Int} (h : KB w L cb (some ⟨b, off, none⟩) n k zs) (hk : k ≤ n) : KB w L cb (some ⟨b, off, none⟩) (n - k) (k - k) (zs.drop k) := by
  have h1 := h.bs.le
  have e1 : n - k = 0 := by omega
  have e2 : k - k = 0 := by omega
  have e3 : zs.drop k = [] := List.drop_of_length_le (by rw [h.bs.len]; omega)
  rw [e1, e2, e3]
  exact ⟨Bs.empty w _ 0 (by decide), fun b' off' h0 e => by omega⟩
theorem drop_getD2 (zs : List Int) (k i : Nat) : (zs.drop k).getD i 0 = zs.getD (k + i) 0 := by simp [List.getD, List.getElem?_drop]
theorem take_getD2 (zs : List Int) (k i : Nat) (h : i < k) : (zs.take k).getD i 0 = zs.getD i 0 := by simp [List.getD, List.getElem?_take, h]

def Wrote (W w : World) (B q : Nat) (L : FL) (cb c N : Nat) (I : FS → KS → Nat → Prop) (X : Nat) (e : Ending) (w' : World) : Prop :=
  e = .returned (.bool true) ∧ ∃ L' s' k', LK W w' B q L' s' cb 0 c k' ∧ KLink w w' L L' cb ∧ I s' k' N ∧ k'.at_ = N ∧ Room s' X

section
variable {c N : Nat} {ok : Nat → Int → Prop} {D b0 er0 : Nat → Int} {r0 : Nat}
set_option maxRecDepth 100000 in
set_option maxHeartbeats 3200000 in
theorem write4_nrm (hD : ∀ i, 0 ≤ D i ∧ D i ≤ 255) (ok255 : ∀ i, ok i 255) (okD : ∀ i z, i < N → ok i z → canB z (D i)) {W w : World} {B q cb u : Nat} {L : FL} {s : FS} {k : KS} {A PA FA : Option Addr} {m cap pm pc fm fc : Nat} {zs ps : List Int} {fb : List Bool}
    (h : LK W w B q L s cb 0 c k) (hI : KInv c ok D b0 er0 r0 s k u) (hb : KB w L cb A m cap zs) (hz : ∀ i, i < m → zs.getD i 0 = D (k.at_ + i)) (hN : k.at_ + m = N) (hc : N ≤ 1024 * c) (hc9 : c ≤ 256)
    (hp : IsSl W PA pm pc 1 (ps.map (Value.int .i64))) (hpl : ps.length = pm) (hpm : pm ≤ 60) (hf : IsSl W FA fm fc 1 (fb.map Value.bool)) (hfl : fb.length = fm) (hfm : fm ≤ 60)
    (hff : ∀ n i z, (n = N ∨ 0 < fm) → n ≤ i → ok i z → canB z 255) (X : Nat) (hr : Room s (m * 264 + (pm + 2) * 264 + X)) :
    Calls Try.prog 58 #[.pointer (some ⟨cb, 0, none⟩), .slice A m cap, .slice PA pm pc, .slice FA fm fc] w (Wrote W w B q L cb c N (KInv c ok D b0 er0 r0) X) := by
  have N2 := Lib.hid num4_any
  have HD := Lib.hid hD
  have OK2 := Lib.hid ok255
  have OKD := Lib.hid okD
  have HFF := Lib.hid hff
  have HPS := Lib.hid hp
  have HFS := Lib.hid hf
  have HPL := Lib.hid hpl
  have HFL := Lib.hid hfl
  have hle := hb.bs.le
  have hmx := hb.bs.max
  have pl1 := hp.2.1
  have pl2 := hp.2.2.1
  have fl1 := hf.2.1
  have fl2 := hf.2.2.1
  have HH := Lib.hid h
  have HII := Lib.hid hI
  have HBB := Lib.hid hb
  have HZZ := Lib.hid hz
  have HRR := Lib.hid hr
  have HNN := Lib.hid hN
  clear hD ok255 okD hff hp hf hpl hfl h hI hb hz hr hN
  go_enter Try.func58, Try.ntmps58
  go_wp2
  go_loopw [1, 9] (fun bv iv wr => ∃ (j : Nat) (A1 : Option Addr) (m1 c1 : Nat) (zs1 : List Int) (s1 : FS) (k1 : KS) (u1 : Nat) (L1 : FL), bv = .slice A1 m1 c1 ∧ iv = .int .i64 j ∧ LK W wr B q L1 s1 cb 0 c k1 ∧ KB wr L1 cb A1 m1 c1 zs1 ∧ KInv c ok D b0 er0 r0 s1 k1 u1 ∧ k1.at_ + m1 = N ∧ (∀ i, i < m1 → zs1.getD i 0 = D (k1.at_ + i)) ∧ KLink w wr L L1 cb ∧ Room s1 (m1 * 264 + (pm + 2 - j) * 264 + X) ∧ j ≤ pm + 1 ∧ (m1 = 0 ∨ j ≤ pm)) (fun _ iv _ => pm + 2 - (intOf iv).toNat)
  case atStart => exact ⟨0, A, m, cap, zs, s, k, u, L, rfl, rfl, HH.out, HBB.out, HII.out, HNN.out, HZZ.out, KLink.self w L cb, HRR.out, by omega, .inr (Nat.zero_le _)⟩
  case round =>
    obtain ⟨j, A1, m1, c1, zs1, s1, k1, u1, L1, rfl, rfl, h1, hB1, hI1, hat, hz1, hl1, hr1, hj, hjm⟩ := hrel
    have H1 := Lib.hid h1
    have HB1 := Lib.hid hB1
    have HI := Lib.hid hI1
    have HAT := Lib.hid hat
    have HZ := Lib.hid hz1
    have HL := Lib.hid hl1
    have HR := Lib.hid hr1
    have l1 := hB1.bs.le
    have m9 := hB1.bs.max
    clear h1 hB1 hI1 hat hz1 hl1 hr1 HH HBB HII HNN HZZ HRR
    by_cases g : 0 < m1
    · have d0 : decide (0 < (m1 : Int)) = true := decide_eq_true (by omega)
      by_cases hjp : j < pm
      · have d1 : decide ((j : Int) < pm) = true := decide_eq_true (by omega)
        obtain ⟨pbk, po, rfl, pb1, pb2⟩ := HPS.out.2.2.2 (by omega)
        have pcell : wr.cell? ⟨pbk, po + j, none⟩ = (ps.map (Value.int .i64))[j]? := (H1.out.keeps.cell (p := ⟨pbk, po + j, none⟩) pb1 (fun h => h)).trans (pb2 j (by omega))
        rw [List.getElem?_map, List.getElem?_eq_getElem (by rw [HPL.out]; exact hjp)] at pcell
        simp only [Option.map_some] at pcell
        generalize ps[j]'(by rw [HPL.out]; exact hjp) = y at pcell
        obtain ⟨n, hn⟩ : ∃ n : Nat, max 0 (min y (m1 : Int)) = n := ⟨(max 0 (min y (m1 : Int))).toNat, by omega⟩
        have hnm : n ≤ m1 := by omega
        have hnx : m1 - n = 0 ∨ j + 1 ≤ pm := .inr hjp
        go_wp2_with fail
        refine (cap_any y 0 m1 (by omega) _).mono ?_
        rintro e w' ⟨rfl, rfl⟩
        rw [hn]
        clear hn
        -- n bytes are written (hnm: no more than there are), w4end the end of the round
        obtain ⟨s2, k2, u2, pw, i2, a2⟩ := write_inv HD.out OK2.out OKD.out HI.out (zs := zs1.take n) (by rw [List.length_take, HB1.out.bs.len]; have := HAT.out; omega) hc (fun i hi => by
          rw [List.length_take, HB1.out.bs.len] at hi
          rw [take_getD2 _ _ _ (by omega)]; exact HZ.out i (by omega))
        have ln : (zs1.take n).length = n := by rw [List.length_take, HB1.out.bs.len]; omega
        rw [ln] at a2
        have rw1 : Room (writeK 0 c s1 k1 (zs1.take n)).1 ((m1 - n) * 264 + (pm + 2 - j) * 264 + X) := Room.write hc9 (fun _ => HI.out.n7) HI.out.core.len (HR.out.less (by rw [ln]; omega))
        have WR := Lib.hid (lkwrite H1.out (fun _ => HI.out.n7) (HB1.out.take hnm) (HR.out.less (show n * 264 ≤ _ by omega)))
        rw [pw] at WR rw1
        have I2 := Lib.hid i2
        have A2 := Lib.hid a2
        have R2 := Lib.hid rw1
        clear pw i2 a2 rw1 ln
        go_wp2_with fail
        refine WR.out.mono ?_
        rintro e w3 ⟨rfl, L3, h3, l3⟩
        have H3 := Lib.hid h3
        have L3K := Lib.hid (HL.out.trans l3)
        have B3 := Lib.hid (HB1.out.link l3)
        simp only [] at H3 R2
        clear h3 l3 WR
        go_wp2_with fail
        refine (N2.out _ _).mono ?_
        rintro e w' ⟨rfl, rfl⟩
        by_cases hjf : j < fm
        · have d3 : decide ((j : Int) < fm) = true := decide_eq_true (by omega)
          obtain ⟨fbk, fo, rfl, fl1, fl2⟩ := HFS.out.2.2.2 (by omega)
          have fcell : w3.cell? ⟨fbk, fo + j, none⟩ = (fb.map Value.bool)[j]? := (H3.out.keeps.cell (p := ⟨fbk, fo + j, none⟩) fl1 (fun h => h)).trans (fl2 j (by omega))
          rw [List.getElem?_map, List.getElem?_eq_getElem (by rw [HFL.out]; exact hjf)] at fcell
          simp only [Option.map_some] at fcell
          generalize fb[j]'(by rw [HFL.out]; exact hjf) = v at fcell
          cases v with
          | true =>
            obtain ⟨s4, k4, pf, i4, a4⟩ := flush_inv HD.out OK2.out OKD.out I2.out (by rw [A2.out]; have := HAT.out; omega) hc (fun i z h1 h2 => HFF.out _ i z (.inr (by omega)) h1 h2)
            have rf : Room (flushK 0 c s2 k2).1 ((m1 - n) * 264 + (pm + 2 - (j + 1)) * 264 + X) := Room.flush (R2.out.less (by omega)) hc9 I2.out.core.len (by have := I2.out.n7; omega)
            have FLS := Lib.hid (lkflush H3.out (R2.out.less (by omega)))
            rw [pf] at FLS rf
            have RE := Lib.hid rf
            have IE := Lib.hid i4
            have AE := Lib.hid (a4.trans A2.out)
            clear pf i4 a4 rf
            go_wp2_with fail
            refine FLS.out.mono ?_
            rintro e w5 ⟨rfl, L5, h5, l5⟩
            have HE := Lib.hid h5
            have LE := Lib.hid (L3K.out.trans l5)
            have BE := Lib.hid (B3.out.link l5)
            simp only [] at HE RE
            clear h5 l5 FLS
            go_wp2_with fail
            refine (N2.out _ _).mono ?_
            rintro e w' ⟨rfl, rfl⟩
            by_cases hcn : c1 = n
            · subst hcn
              obtain ⟨b9, o9, e9, -, -⟩ := BE.out.bs.at_ g
              subst e9
              go_wp2
              go_roundw
              case rel => exact ⟨j + 1, some ⟨b9, o9, none⟩, 0, 0, [], _, _, _, _, rfl, by go_num, HE.out, ⟨Bs.empty _ _ 0 (by decide), fun b' off' h0 e => absurd h0 (by decide)⟩, IE.out, by rw [AE.out]; have := HAT.out; omega, fun i hi => absurd hi (Nat.not_lt_zero _), LE.out, RE.out.less (by omega), by omega, .inl rfl⟩
              case measure => simp [intOf]; omega
            · obtain ⟨b9, o9, e9, -, -⟩ := BE.out.bs.at_ g
              subst e9
              go_wp2
              go_roundw
              case rel => exact ⟨j + 1, some ⟨b9, o9 + n, none⟩, m1 - n, c1 - n, zs1.drop n, _, _, _, _, rfl, by go_num, HE.out, BE.out.dropIf hnm hcn, IE.out, by rw [AE.out]; have := HAT.out; omega, fun i hi => by rw [drop_getD2, HZ.out _ (by omega), AE.out]; congr 1; omega, LE.out, RE.out, by omega, hnx⟩
              case measure => simp [intOf]; omega
          | false =>
            have HE := Lib.hid H3.out
            have IE := Lib.hid I2.out
            have AE := Lib.hid A2.out
            have LE := Lib.hid L3K.out
            have BE := Lib.hid B3.out
            have RE := Lib.hid (R2.out.less (show (m1 - n) * 264 + (pm + 2 - (j + 1)) * 264 + X ≤ _ by omega))
            by_cases hcn : c1 = n
            · subst hcn
              obtain ⟨b9, o9, e9, -, -⟩ := BE.out.bs.at_ g
              subst e9
              go_wp2
              go_roundw
              case rel => exact ⟨j + 1, some ⟨b9, o9, none⟩, 0, 0, [], _, _, _, _, rfl, by go_num, HE.out, ⟨Bs.empty _ _ 0 (by decide), fun b' off' h0 e => absurd h0 (by decide)⟩, IE.out, by rw [AE.out]; have := HAT.out; omega, fun i hi => absurd hi (Nat.not_lt_zero _), LE.out, RE.out.less (by omega), by omega, .inl rfl⟩
              case measure => simp [intOf]; omega
            · obtain ⟨b9, o9, e9, -, -⟩ := BE.out.bs.at_ g
              subst e9
              go_wp2
              go_roundw
              case rel => exact ⟨j + 1, some ⟨b9, o9 + n, none⟩, m1 - n, c1 - n, zs1.drop n, _, _, _, _, rfl, by go_num, HE.out, BE.out.dropIf hnm hcn, IE.out, by rw [AE.out]; have := HAT.out; omega, fun i hi => by rw [drop_getD2, HZ.out _ (by omega), AE.out]; congr 1; omega, LE.out, RE.out, by omega, hnx⟩
              case measure => simp [intOf]; omega
        · have d3 : decide ((j : Int) < fm) = false := decide_eq_false (by omega)
          have HE := Lib.hid H3.out
          have IE := Lib.hid I2.out
          have AE := Lib.hid A2.out
          have LE := Lib.hid L3K.out
          have BE := Lib.hid B3.out
          have RE := Lib.hid (R2.out.less (show (m1 - n) * 264 + (pm + 2 - (j + 1)) * 264 + X ≤ _ by omega))
          by_cases hcn : c1 = n
          · subst hcn
            obtain ⟨b9, o9, e9, -, -⟩ := BE.out.bs.at_ g
            subst e9
            go_wp2
            go_roundw
            case rel => exact ⟨j + 1, some ⟨b9, o9, none⟩, 0, 0, [], _, _, _, _, rfl, by go_num, HE.out, ⟨Bs.empty _ _ 0 (by decide), fun b' off' h0 e => absurd h0 (by decide)⟩, IE.out, by rw [AE.out]; have := HAT.out; omega, fun i hi => absurd hi (Nat.not_lt_zero _), LE.out, RE.out.less (by omega), by omega, .inl rfl⟩
            case measure => simp [intOf]; omega
          · obtain ⟨b9, o9, e9, -, -⟩ := BE.out.bs.at_ g
            subst e9
            go_wp2
            go_roundw
            case rel => exact ⟨j + 1, some ⟨b9, o9 + n, none⟩, m1 - n, c1 - n, zs1.drop n, _, _, _, _, rfl, by go_num, HE.out, BE.out.dropIf hnm hcn, IE.out, by rw [AE.out]; have := HAT.out; omega, fun i hi => by rw [drop_getD2, HZ.out _ (by omega), AE.out]; congr 1; omega, LE.out, RE.out, by omega, hnx⟩
            case measure => simp [intOf]; omega
      · have d1 : decide ((j : Int) < pm) = false := decide_eq_false (by omega)
        have hnm : m1 ≤ m1 := Nat.le_refl _
        -- m1 bytes are written (hnm: no more than there are), w4all the end of the round
        obtain ⟨s2, k2, u2, pw, i2, a2⟩ := write_inv HD.out OK2.out OKD.out HI.out (zs := zs1.take m1) (by rw [List.length_take, HB1.out.bs.len]; have := HAT.out; omega) hc (fun i hi => by
          rw [List.length_take, HB1.out.bs.len] at hi
          rw [take_getD2 _ _ _ (by omega)]; exact HZ.out i (by omega))
        have ln : (zs1.take m1).length = m1 := by rw [List.length_take, HB1.out.bs.len]; omega
        rw [ln] at a2
        have rw1 : Room (writeK 0 c s1 k1 (zs1.take m1)).1 ((m1 - m1) * 264 + (pm + 2 - j) * 264 + X) := Room.write hc9 (fun _ => HI.out.n7) HI.out.core.len (HR.out.less (by rw [ln]; omega))
        have WR := Lib.hid (lkwrite H1.out (fun _ => HI.out.n7) (HB1.out.take hnm) (HR.out.less (show m1 * 264 ≤ _ by omega)))
        rw [pw] at WR rw1
        have I2 := Lib.hid i2
        have A2 := Lib.hid a2
        have R2 := Lib.hid rw1
        clear pw i2 a2 rw1 ln
        go_wp2_with fail
        refine WR.out.mono ?_
        rintro e w3 ⟨rfl, L3, h3, l3⟩
        have H3 := Lib.hid h3
        have L3K := Lib.hid (HL.out.trans l3)
        have B3 := Lib.hid (HB1.out.link l3)
        simp only [] at H3 R2
        clear h3 l3 WR
        go_wp2_with fail
        refine (N2.out _ _).mono ?_
        rintro e w' ⟨rfl, rfl⟩
        by_cases hjf : j < fm
        · have d3 : decide ((j : Int) < fm) = true := decide_eq_true (by omega)
          obtain ⟨fbk, fo, rfl, fl1, fl2⟩ := HFS.out.2.2.2 (by omega)
          have fcell : w3.cell? ⟨fbk, fo + j, none⟩ = (fb.map Value.bool)[j]? := (H3.out.keeps.cell (p := ⟨fbk, fo + j, none⟩) fl1 (fun h => h)).trans (fl2 j (by omega))
          rw [List.getElem?_map, List.getElem?_eq_getElem (by rw [HFL.out]; exact hjf)] at fcell
          simp only [Option.map_some] at fcell
          generalize fb[j]'(by rw [HFL.out]; exact hjf) = v at fcell
          cases v with
          | true =>
            obtain ⟨s4, k4, pf, i4, a4⟩ := flush_inv HD.out OK2.out OKD.out I2.out (by rw [A2.out]; have := HAT.out; omega) hc (fun i z h1 h2 => HFF.out _ i z (.inr (by omega)) h1 h2)
            have rf : Room (flushK 0 c s2 k2).1 ((m1 - m1) * 264 + (pm + 2 - (j + 1)) * 264 + X) := Room.flush (R2.out.less (by omega)) hc9 I2.out.core.len (by have := I2.out.n7; omega)
            have FLS := Lib.hid (lkflush H3.out (R2.out.less (by omega)))
            rw [pf] at FLS rf
            have RE := Lib.hid rf
            have IE := Lib.hid i4
            have AE := Lib.hid (a4.trans A2.out)
            clear pf i4 a4 rf
            go_wp2_with fail
            refine FLS.out.mono ?_
            rintro e w5 ⟨rfl, L5, h5, l5⟩
            have HE := Lib.hid h5
            have LE := Lib.hid (L3K.out.trans l5)
            have BE := Lib.hid (B3.out.link l5)
            simp only [] at HE RE
            clear h5 l5 FLS
            go_wp2_with fail
            refine (N2.out _ _).mono ?_
            rintro e w' ⟨rfl, rfl⟩
            by_cases hcn : c1 = m1
            · subst hcn
              obtain ⟨b9, o9, e9, -, -⟩ := BE.out.bs.at_ g
              subst e9
              go_wp2
              go_roundw
              case rel => exact ⟨j + 1, some ⟨b9, o9, none⟩, 0, 0, [], _, _, _, _, rfl, by go_num, HE.out, ⟨Bs.empty _ _ 0 (by decide), fun b' off' h0 e => absurd h0 (by decide)⟩, IE.out, by rw [AE.out]; have := HAT.out; omega, fun i hi => absurd hi (Nat.not_lt_zero _), LE.out, RE.out.less (by omega), by omega, .inl rfl⟩
              case measure => simp [intOf]; omega
            · obtain ⟨b9, o9, e9, -, -⟩ := BE.out.bs.at_ g
              subst e9
              go_wp2
              go_roundw
              case rel => exact ⟨j + 1, some ⟨b9, o9 + m1, none⟩, 0, c1 - m1, [], _, _, _, _, rfl, by go_num, HE.out, ⟨Bs.empty _ _ _ (by omega), fun b' off' h0 e => absurd h0 (by decide)⟩, IE.out, by rw [AE.out]; have := HAT.out; omega, fun i hi => absurd hi (Nat.not_lt_zero _), LE.out, RE.out.less (by omega), by omega, .inl rfl⟩
              case measure => simp [intOf]; omega
          | false =>
            have HE := Lib.hid H3.out
            have IE := Lib.hid I2.out
            have AE := Lib.hid A2.out
            have LE := Lib.hid L3K.out
            have BE := Lib.hid B3.out
            have RE := Lib.hid (R2.out.less (show (m1 - m1) * 264 + (pm + 2 - (j + 1)) * 264 + X ≤ _ by omega))
            by_cases hcn : c1 = m1
            · subst hcn
              obtain ⟨b9, o9, e9, -, -⟩ := BE.out.bs.at_ g
              subst e9
              go_wp2
              go_roundw
              case rel => exact ⟨j + 1, some ⟨b9, o9, none⟩, 0, 0, [], _, _, _, _, rfl, by go_num, HE.out, ⟨Bs.empty _ _ 0 (by decide), fun b' off' h0 e => absurd h0 (by decide)⟩, IE.out, by rw [AE.out]; have := HAT.out; omega, fun i hi => absurd hi (Nat.not_lt_zero _), LE.out, RE.out.less (by omega), by omega, .inl rfl⟩
              case measure => simp [intOf]; omega
            · obtain ⟨b9, o9, e9, -, -⟩ := BE.out.bs.at_ g
              subst e9
              go_wp2
              go_roundw
              case rel => exact ⟨j + 1, some ⟨b9, o9 + m1, none⟩, 0, c1 - m1, [], _, _, _, _, rfl, by go_num, HE.out, ⟨Bs.empty _ _ _ (by omega), fun b' off' h0 e => absurd h0 (by decide)⟩, IE.out, by rw [AE.out]; have := HAT.out; omega, fun i hi => absurd hi (Nat.not_lt_zero _), LE.out, RE.out.less (by omega), by omega, .inl rfl⟩
              case measure => simp [intOf]; omega
        · have d3 : decide ((j : Int) < fm) = false := decide_eq_false (by omega)
          have HE := Lib.hid H3.out
          have IE := Lib.hid I2.out
          have AE := Lib.hid A2.out
          have LE := Lib.hid L3K.out
          have BE := Lib.hid B3.out
          have RE := Lib.hid (R2.out.less (show (m1 - m1) * 264 + (pm + 2 - (j + 1)) * 264 + X ≤ _ by omega))
          by_cases hcn : c1 = m1
          · subst hcn
            obtain ⟨b9, o9, e9, -, -⟩ := BE.out.bs.at_ g
            subst e9
            go_wp2
            go_roundw
            case rel => exact ⟨j + 1, some ⟨b9, o9, none⟩, 0, 0, [], _, _, _, _, rfl, by go_num, HE.out, ⟨Bs.empty _ _ 0 (by decide), fun b' off' h0 e => absurd h0 (by decide)⟩, IE.out, by rw [AE.out]; have := HAT.out; omega, fun i hi => absurd hi (Nat.not_lt_zero _), LE.out, RE.out.less (by omega), by omega, .inl rfl⟩
            case measure => simp [intOf]; omega
          · obtain ⟨b9, o9, e9, -, -⟩ := BE.out.bs.at_ g
            subst e9
            go_wp2
            go_roundw
            case rel => exact ⟨j + 1, some ⟨b9, o9 + m1, none⟩, 0, c1 - m1, [], _, _, _, _, rfl, by go_num, HE.out, ⟨Bs.empty _ _ _ (by omega), fun b' off' h0 e => absurd h0 (by decide)⟩, IE.out, by rw [AE.out]; have := HAT.out; omega, fun i hi => absurd hi (Nat.not_lt_zero _), LE.out, RE.out.less (by omega), by omega, .inl rfl⟩
            case measure => simp [intOf]; omega
    · obtain rfl : m1 = 0 := by omega
      have hat := HAT.out
      obtain ⟨s4, k4, pf, i4, a4⟩ := flush_inv HD.out OK2.out OKD.out HI.out (by omega) hc (fun i z h1 h2 => HFF.out _ i z (.inl (by omega)) h1 h2)
      have FLS := Lib.hid (lkflush H1.out (HR.out.less (by omega)))
      have rf : Room (flushK 0 c s1 k1).1 X := Room.flush (HR.out.less (by omega)) hc9 HI.out.core.len (by have := HI.out.n7; omega)
      rw [pf] at FLS rf
      have RX := Lib.hid rf
      have hkN : k1.at_ = N := by omega
      rw [hkN] at i4 a4
      have IE := Lib.hid i4
      have AE := Lib.hid a4
      clear pf i4 a4 hat hkN rf
      go_wp2_with fail
      refine FLS.out.mono ?_
      rintro e w5 ⟨rfl, L5, h5, l5⟩
      have HE := Lib.hid h5
      have LE := Lib.hid (HL.out.trans l5)
      simp only [] at HE
      clear h5 l5 FLS
      go_wp2_with fail
      refine (N2.out _ _).mono ?_
      rintro e w' ⟨rfl, rfl⟩
      go_wp2
      go_ret
      exact ⟨by first | rfl | simp, L5, s4, k4, HE.out, LE.out, IE.out, AE.out, RX.out⟩
end
end Go.Proofs.Ytngofnlhbhfigaa
