/- The walk of the reference's Program. -/
import Derived.Test.YtngofnlhbhfigaaRfWrite
namespace Go.Proofs.Ytngofnlhbhfigaa
open Go.RowKit

theorem stepped_dark {s : FS} (h : ¬ s.left = 0) : s.stepped.dark = s.dark := by
  unfold FS.stepped
  rw [if_neg h]
  split <;> rfl
theorem stepped_cut {s : FS} (h : s.left = 0) : s.stepped.left = -1 ∧ s.stepped.pick = [] := by
  unfold FS.stepped
  rw [if_neg (by omega), if_pos h]
  exact ⟨rfl, rfl⟩
/-- What Program, and Erase, leave. -/
def RProgTold (w : World) (B : Nat) (L : RL) (r : FS × Int) (e : Ending) (w' : World) : Prop := e = .returned (.int .i64 r.2) ∧ ∃ L', RTurn w w' B L L' r.1
/-- What was picked is let go. -/
theorem RAt.unpick {w w' : World} {B : Nat} {L : RL} {s : FS} (h : RAt w B L s) (hl : s.left = -1) (hw : w' = w.setCell ⟨L.bf, 4, none⟩ (.slice none 0 0)) : RTurn w w' B L { L with pA := none, pc := 0, pk := [] } s := by
  subst hw
  exact h.rearm (s' := s) (A := none) (c := 0) (ps := []) (Keeps.refl _ w) (Own.nil _ _) ((Keeps.self L.bf w).put 4 (.slice none 0 0)) (h.f.set 4 (.slice none 0 0)) rfl rfl (fun h0 => by omega) (by omega) (by omega) (by decide)

set_option maxRecDepth 100000 in
set_option maxHeartbeats 1600000 in
theorem rfprogram_any (B : Nat) (L : RL) (s : FS) (q : Nat) (a : Int) (A : Option Addr) (m c : Nat) (zs : List Int) (w : World) (h : RAt w B L s) (hq : L.bf = q) (hb : Rb w L A m c zs) (hst : 0 ≤ s.steps ∧ s.steps + m ≤ 1000000000000) :
    Calls Try.prog 79 #[.pointer (some ⟨q, 0, none⟩), .int .i64 a, .slice A m c] w (RProgTold w B L (s.progF a zs)) := by
  have hnn := h.n9
  have hnN := h.nN
  have WI := Lib.hid (fun w => rfwithin_any a m L.N (by omega) w)
  have hbl := h.bl
  have hml := hb.bs.len
  have hle := hb.bs.le
  have hmx := hb.bs.max
  have PF : Hid (s.progF a zs = if s.dark = true then (s, 5) else if withinB a m L.N = false then (s, 2) else if a % 8 ≠ 0 ∨ m % 8 ≠ 0 then (s, 3) else if canN ((s.b.drop a.toNat).take m) zs = false then (s, 4) else progW (m / 8) s a.toNat zs) := by
    show s.progF a zs = _
    unfold FS.progF; rw [hbl, hml]
  have HT := Lib.hid (RTurn.self h)
  obtain ⟨L0, hL0⟩ : ∃ x, x = L := ⟨_, rfl⟩
  have HL0 := Lib.hid hL0
  rw [← hL0] at HT
  clear hL0 hbl hnn hnN
  cases hd : s.dark with
  | true =>
    rw [hd] at PF
    have PG : Hid (s.progF a zs = (s, 5)) := by show _ = _; rw [PF.out, if_pos rfl]
    clear WI hb
    obtain ⟨bf, gb, ge, N, capb, n, pA, pc, pk⟩ := L
    simp only [] at hq
    subst hq
    have c0 := h.f.cellD 0 _ rfl
    have c1 := h.f.cellD 1 _ rfl
    have c2 := h.f.cellD 2 _ rfl
    have c3 := h.f.cellD 3 _ rfl
    have c4 := h.f.cellD 4 _ rfl
    have c5 := h.f.cellD 5 _ rfl
    have hcap := h.bs.le
    have hcmx := h.bs.max
    have hN := h.nN
    have hn0 := h.n0
    have hn9 := h.n9
    have H := Lib.hid h
    simp only [] at c0 c1 c2 c3 c4 c5 hcap hcmx hN hn0 hn9
    have hNb : N ≤ 262144 := by omega
    have hN1 : 1024 ≤ N := by omega
    have HN := Lib.hid hN
    clear h hN
    rw [HL0.out] at HT
    rw [hd] at c5
    clear hd HL0
    go_enter Try.func79, Try.ntmps79
    go_wp2
    go_ret
    rw [PG.out]
    exact ⟨rfl, _, HT.out⟩
  | false =>
  rw [hd] at PF
  cases hw : withinB a m L.N with
  | false =>
    rw [hw] at PF WI
    have PG : Hid (s.progF a zs = (s, 2)) := by show _ = _; rw [PF.out, if_neg (by decide), if_pos rfl]
    clear hb hw
    obtain ⟨bf, gb, ge, N, capb, n, pA, pc, pk⟩ := L
    simp only [] at hq
    subst hq
    have c0 := h.f.cellD 0 _ rfl
    have c1 := h.f.cellD 1 _ rfl
    have c2 := h.f.cellD 2 _ rfl
    have c3 := h.f.cellD 3 _ rfl
    have c4 := h.f.cellD 4 _ rfl
    have c5 := h.f.cellD 5 _ rfl
    have hcap := h.bs.le
    have hcmx := h.bs.max
    have hN := h.nN
    have hn0 := h.n0
    have hn9 := h.n9
    have H := Lib.hid h
    simp only [] at c0 c1 c2 c3 c4 c5 hcap hcmx hN hn0 hn9
    have hNb : N ≤ 262144 := by omega
    have hN1 : 1024 ≤ N := by omega
    have HN := Lib.hid hN
    clear h hN
    rw [HL0.out] at HT
    rw [hd] at c5
    clear hd HL0
    simp only [] at WI
    go_enter Try.func79, Try.ntmps79
    go_wp2_with fail
    refine (WI.out _).mono ?_
    rintro e w' ⟨rfl, rfl⟩
    go_wp2
    go_ret
    rw [PG.out]
    exact ⟨rfl, _, HT.out⟩
  | true =>
  rw [hw] at PF WI
  obtain ⟨i, j, rfl, hj, hij⟩ := within_nat hw
  obtain rfl : m = j := by omega
  simp only [Int.toNat_natCast] at PF
  clear hw hj
  by_cases g1 : i % 8 = 0
  case neg =>
    have PG : Hid (s.progF i zs = (s, 3)) := by show _ = _; rw [PF.out, if_neg (by decide), if_neg (by decide), if_pos (.inl (by omega))]
    have e1 : ((i : Int) % 8 != 0) = true := by simp; omega
    clear hb
    obtain ⟨bf, gb, ge, N, capb, n, pA, pc, pk⟩ := L
    simp only [] at hq
    subst hq
    have c0 := h.f.cellD 0 _ rfl
    have c1 := h.f.cellD 1 _ rfl
    have c2 := h.f.cellD 2 _ rfl
    have c3 := h.f.cellD 3 _ rfl
    have c4 := h.f.cellD 4 _ rfl
    have c5 := h.f.cellD 5 _ rfl
    have hcap := h.bs.le
    have hcmx := h.bs.max
    have hN := h.nN
    have hn0 := h.n0
    have hn9 := h.n9
    have H := Lib.hid h
    simp only [] at c0 c1 c2 c3 c4 c5 hcap hcmx hN hn0 hn9
    have hNb : N ≤ 262144 := by omega
    have hN1 : 1024 ≤ N := by omega
    have HN := Lib.hid hN
    clear h hN
    rw [HL0.out] at HT
    rw [hd] at c5
    clear hd HL0
    simp only [] at WI
    go_enter Try.func79, Try.ntmps79
    go_wp2_with fail
    refine (WI.out _).mono ?_
    rintro e w' ⟨rfl, rfl⟩
    go_wp2
    go_ret
    rw [PG.out]
    exact ⟨rfl, _, HT.out⟩
  have e1 : ((i : Int) % 8 != 0) = false := by simp; omega
  by_cases g2 : m % 8 = 0
  case neg =>
    have PG : Hid (s.progF i zs = (s, 3)) := by show _ = _; rw [PF.out, if_neg (by decide), if_neg (by decide), if_pos (.inr g2)]
    have e2 : ((m : Int) % 8 != 0) = true := by simp; omega
    clear hb
    obtain ⟨bf, gb, ge, N, capb, n, pA, pc, pk⟩ := L
    simp only [] at hq
    subst hq
    have c0 := h.f.cellD 0 _ rfl
    have c1 := h.f.cellD 1 _ rfl
    have c2 := h.f.cellD 2 _ rfl
    have c3 := h.f.cellD 3 _ rfl
    have c4 := h.f.cellD 4 _ rfl
    have c5 := h.f.cellD 5 _ rfl
    have hcap := h.bs.le
    have hcmx := h.bs.max
    have hN := h.nN
    have hn0 := h.n0
    have hn9 := h.n9
    have H := Lib.hid h
    simp only [] at c0 c1 c2 c3 c4 c5 hcap hcmx hN hn0 hn9
    have hNb : N ≤ 262144 := by omega
    have hN1 : 1024 ≤ N := by omega
    have HN := Lib.hid hN
    clear h hN
    rw [HL0.out] at HT
    rw [hd] at c5
    clear hd HL0
    simp only [] at WI
    go_enter Try.func79, Try.ntmps79
    go_wp2_with fail
    refine (WI.out _).mono ?_
    rintro e w' ⟨rfl, rfl⟩
    go_wp2
    go_ret
    rw [PG.out]
    exact ⟨rfl, _, HT.out⟩
  have e2 : ((m : Int) % 8 != 0) = false := by simp; omega
  by_cases hcp : L.capb = i
  · have hN := h.bs.le
    obtain rfl : m = 0 := by omega
    have e0 : zs = [] := List.eq_nil_of_length_eq_zero hml
    subst e0
    have CN := Lib.hid (rcan_any (some ⟨L.gb, 0, none⟩) A 0 0 0 c [] [] w (Bs.empty _ _ _ (by omega)) hb.bs)
    have hcn : canN [] [] = true := rfl
    rw [hcn] at CN
    have PG : Hid (s.progF i [] = (s, 0)) := by show _ = _; rw [PF.out, if_neg (by decide), if_neg (by decide), if_neg (by omega), List.take_zero, hcn, if_neg (by decide)]; rfl
    clear hb hcn PF hml
    obtain ⟨bf, gb, ge, N, capb, n, pA, pc, pk⟩ := L
    simp only [] at hq
    subst hq
    have c0 := h.f.cellD 0 _ rfl
    have c1 := h.f.cellD 1 _ rfl
    have c2 := h.f.cellD 2 _ rfl
    have c3 := h.f.cellD 3 _ rfl
    have c4 := h.f.cellD 4 _ rfl
    have c5 := h.f.cellD 5 _ rfl
    have hcap := h.bs.le
    have hcmx := h.bs.max
    have hN := h.nN
    have hn0 := h.n0
    have hn9 := h.n9
    have H := Lib.hid h
    simp only [] at c0 c1 c2 c3 c4 c5 hcap hcmx hN hn0 hn9
    have hNb : N ≤ 262144 := by omega
    have hN1 : 1024 ≤ N := by omega
    have HN := Lib.hid hN
    clear h hN
    rw [HL0.out] at HT
    rw [hd] at c5
    clear hd HL0
    simp only [] at WI CN hcp hij
    subst hcp
    go_enter Try.func79, Try.ntmps79
    go_wp2_with fail
    refine (WI.out _).mono ?_
    rintro e w' ⟨rfl, rfl⟩
    go_wp2_with fail
    refine CN.out.mono ?_
    rintro e w1 ⟨rfl, q0, rfl⟩
    go_wp2
    go_loopw [7] (fun iv wr => iv = .int .i64 0 ∧ wr = w.drewN q0) (fun _ _ => 0)
    case atStart => exact ⟨rfl, rfl⟩
    case round =>
      obtain ⟨rfl, rfl⟩ := hrel
      go_wp2
      go_ret
      rw [PG.out]
      exact ⟨rfl, _, HT.out.at_.later ((Keeps.refl None w).drewN q0), (Keeps.refl _ w).drewN q0, rfl, rfl, fun _ h => .inl h⟩
  have hdi := rcan_any _ A m _ m c _ zs w (h.cut (i := i) (j := m) hij) hb.bs
  have DI := Lib.hid hdi
  clear hdi
  have hsub : i + m - i = m := by omega
  cases hc : canN ((s.b.drop i).take m) zs with
  | false =>
    rw [hc] at PF DI
    have PG : Hid (s.progF i zs = (s, 4)) := by show _ = _; rw [PF.out, if_neg (by decide), if_neg (by decide), if_neg (by omega), if_pos rfl]
    clear hb hc
    obtain ⟨bf, gb, ge, N, capb, n, pA, pc, pk⟩ := L
    simp only [] at hq
    subst hq
    have c0 := h.f.cellD 0 _ rfl
    have c1 := h.f.cellD 1 _ rfl
    have c2 := h.f.cellD 2 _ rfl
    have c3 := h.f.cellD 3 _ rfl
    have c4 := h.f.cellD 4 _ rfl
    have c5 := h.f.cellD 5 _ rfl
    have hcap := h.bs.le
    have hcmx := h.bs.max
    have hN := h.nN
    have hn0 := h.n0
    have hn9 := h.n9
    have H := Lib.hid h
    simp only [] at c0 c1 c2 c3 c4 c5 hcap hcmx hN hn0 hn9
    have hNb : N ≤ 262144 := by omega
    have hN1 : 1024 ≤ N := by omega
    have HN := Lib.hid hN
    clear h hN
    rw [HL0.out] at HT
    rw [hd] at c5
    clear hd HL0
    simp only [] at WI DI hcp hij
    go_enter Try.func79, Try.ntmps79
    go_wp2_with fail
    refine (WI.out _).mono ?_
    rintro e w' ⟨rfl, rfl⟩
    go_wp2_with fail
    refine DI.out.mono ?_
    rintro e w1 ⟨rfl, q, rfl⟩
    go_wp2
    go_ret
    rw [PG.out]
    exact ⟨rfl, _, HT.out.at_.later ((Keeps.refl None w).drewN q), (Keeps.refl _ w).drewN q, rfl, rfl, fun _ h => .inl h⟩
  | true =>
  rw [hc] at PF DI
  obtain ⟨K, hK⟩ : ∃ K, m = 8 * K := ⟨m / 8, by omega⟩
  obtain ⟨R, hR⟩ : ∃ R, progW K s i zs = R := ⟨_, rfl⟩
  have PG : Hid (s.progF i zs = R) := by
    show _ = _
    rw [PF.out, if_neg (by decide), if_neg (by decide), if_neg (by omega), if_neg (by decide), ← hR, hK, Nat.mul_div_cancel_left _ (by decide)]
  rw [PG.out]
  have HR := Lib.hid hR
  have HC := Lib.hid hc
  have HML := Lib.hid hml
  have HB := Lib.hid hb.bs
  have HA := Lib.hid (fun b off h0 e hS => hb.ap b off h0 e (.inl hS))
  have hK8 : m ≤ 262144 := by have := h.nN; have := h.n9; omega
  have HK := Lib.hid hK
  obtain ⟨st1, st2⟩ := hst
  have HD := Lib.hid hd
  clear hb hc PF PG hR hml HT hK
  obtain ⟨bf, gb, ge, N, capb, n, pA, pc, pk⟩ := L
  simp only [] at hq
  subst hq
  have c0 := h.f.cellD 0 _ rfl
  have c1 := h.f.cellD 1 _ rfl
  have c2 := h.f.cellD 2 _ rfl
  have c3 := h.f.cellD 3 _ rfl
  have c4 := h.f.cellD 4 _ rfl
  have c5 := h.f.cellD 5 _ rfl
  have hcap := h.bs.le
  have hcmx := h.bs.max
  have hN := h.nN
  have hn0 := h.n0
  have hn9 := h.n9
  have H := Lib.hid h
  simp only [] at c0 c1 c2 c3 c4 c5 hcap hcmx hN hn0 hn9
  have hNb : N ≤ 262144 := by omega
  have hN1 : 1024 ≤ N := by omega
  have HN := Lib.hid hN
  clear h hN
  rw [hd] at c5
  clear hd HL0
  simp only [] at WI DI
  simp only [RL.S] at HA
  simp only [] at hij hcp
  go_enter Try.func79, Try.ntmps79
  go_wp2_with fail
  refine (WI.out _).mono ?_
  rintro e w' ⟨rfl, rfl⟩
  go_wp2_with fail
  refine DI.out.mono ?_
  rintro e w1 ⟨rfl, q0, rfl⟩
  go_wp2
  have D0 : Hid (Keeps (fun k => k = bf ∨ k = gb ∨ k = ge) w (w.drewN q0)) := (Keeps.refl _ w).drewN q0
  have H0 := Lib.hid (H.out.later ((Keeps.refl None w).drewN q0))
  clear WI DI c0 c1 c2 c3 c4 c5
  go_loopw [7] (fun iv wr => ∃ (j : Nat) (s1 : FS), j ≤ K ∧ iv = .int .i64 (8 * j : Nat) ∧ RAt wr B ⟨bf, gb, ge, N, capb, n, pA, pc, pk⟩ s1 ∧ s1.dark = false ∧ Keeps (fun k => k = bf ∨ k = gb ∨ k = ge) w wr ∧ progW (K - j) s1 (i + 8 * j) (zs.drop (8 * j)) = R ∧ canN ((s1.b.drop (i + 8 * j)).take (8 * (K - j))) (zs.drop (8 * j)) = true ∧ 0 ≤ s1.steps ∧ s1.steps + (K - j : Nat) ≤ 1000000000000) (fun iv _ => 8 * K - (intOf iv).toNat)
  case atStart =>
    refine ⟨0, s, Nat.zero_le _, rfl, H0.out, HD.out, D0.out, by simpa using HR.out, ?_, st1, by have := HK.out; omega⟩
    have := HC.out
    rw [HK.out] at this
    simpa using this
  case round =>
    obtain ⟨j, s1, hjK, rfl, hF, hdk, hKp, hpr, hcn, hs1, hs2⟩ := hrel
    obtain ⟨wv, rfl⟩ : ∃ x, x = wr := ⟨_, rfl⟩
    clear H0 D0
    by_cases hlt : j < K
    · obtain ⟨k, hk⟩ : ∃ k, K - j = k + 1 := ⟨K - j - 1, by omega⟩
      rw [hk] at hpr hcn hs2
      obtain ⟨iv, hiv⟩ : ∃ iv, 8 * j = iv := ⟨_, rfl⟩
      obtain ⟨p, hp⟩ : ∃ p, i + iv = p := ⟨_, rfl⟩
      rw [hiv] at hpr hcn ⊢
      rw [hp] at hpr hcn
      have hm8 : iv + 8 ≤ m := by have := HK.out; omega
      have hpN : p + 8 ≤ N := by omega
      have x1 : decide (iv < m) = true := decide_eq_true (by omega)
      have x2 : decide ((iv : Int) < m) = true := decide_eq_true (by omega)
      have CW := Lib.hid (can_word hcn)
      have HF := Lib.hid hF
      have HKp := Lib.hid hKp
      have y0 := hF.f.cellD 0 _ rfl
      simp only [] at y0
      obtain ⟨bb, bo, hAe, hbb, -⟩ := HB.out.at_ (by omega)
      subst hAe
      have NS1 := Lib.hid (HA.out bb bo (by omega) rfl)
      have ce : ¬ c = iv := by omega
      have cpe : ¬ capb = p := by omega
      have w1 : IntKind.i64.wrap ((i : Int) + iv) = p := by rw [show (i : Int) + iv = (p : Int) by omega]; exact wrap_nat _ (by omega)
      have w2 : IntKind.i64.wrap ((p : Int) + 8) = p + 8 := IntWalk.i64_in _ (by omega)
      have w3 : IntKind.i64.wrap ((iv : Int) + 8) = iv + 8 := IntWalk.i64_in _ (by omega)
      have w4 : p + 8 - p = 8 := by omega
      have w5 : iv + 8 - iv = 8 := by omega
      have BRK := Lib.hid (fun w' (hh : RAt w' B ⟨bf, gb, ge, N, capb, n, pA, pc, pk⟩ s1) => rfstep_any B _ s1 bf w' hh rfl hdk ⟨hs1, by omega⟩)
      have BW := Lib.hid (fun w' (hh : Keeps (fun k => k = bf ∨ k = gb ∨ k = ge) w w') => Bs.take (k := 8) ((HB.out.keeps hh (fun b off _ _ e => by cases e; exact NS1.out)).drop (k := iv) (by omega)) (by omega))
      have HCN := Lib.hid hcn
      have HPR := Lib.hid hpr
      have LEN8 : Hid (((zs.drop iv).take 8).length = 8) := by show ((zs.drop iv).take 8).length = 8; rw [List.length_take, List.length_drop, HML.out]; omega
      have ST := Lib.hid (stepped_steps_le (s := s1) (a := (k : Int)) (b := 1000000000000) hs1 (by omega))
      have E8 : Hid (8 * (j + 1) = iv + 8) := by show 8 * (j + 1) = iv + 8; omega
      have EKj : Hid (K - (j + 1) = k) := by show K - (j + 1) = k; omega
      have EP : Hid (i + (iv + 8) = p + 8) := by show i + (iv + 8) = p + 8; omega
      have HDK := Lib.hid hdk
      clear hF hKp hcn hpr hs1 hs2 hiv hp hk hdk
      by_cases h0 : s1.left = 0
      · have EL : Hid (decide (s1.left = 0) = true) := decide_eq_true h0
        have ER := Lib.hid (progW_cut HPR.out h0)
        have hpk := HF.out.armed (by omega)
        simp only [] at hpk
        have HPK := Lib.hid hpk
        rw [← HPK.out] at ER
        have SC := Lib.hid (stepped_cut h0)
        clear h0 hpk HPK
        go_wp2_with fail
        refine (BRK.out _ HF.out).mono ?_
        rintro e w2 ⟨rfl, kb, hf2⟩
        rw [EL.out]
        have y4 := hf2.f.cellD 4 _ rfl
        simp only [] at y4
        have K2 : Hid (Keeps (fun k => k = bf ∨ k = gb ∨ k = ge) w w2) := HKp.out.trans kb (fun _ h => h) (fun _ _ h => .inl h)
        have F2 := Lib.hid hf2
        have C2 : Hid (Bs w2 (some ⟨gb, p, none⟩) 8 (capb - p) ((s1.b.drop p).take 8)) := by have := hf2.cut (i := p) (j := 8) hpN; rwa [FS.stepped_b] at this
        have P2 : Hid (Bs w2 pA pk.length pc pk) := ownBs (show Own w2 B (.slice pA pk.length pc) pk from hf2.p)
        have W2 := Lib.hid (BW.out w2 K2.out)
        clear kb hf2 HF HKp BW BRK
        go_wp2_with fail
        refine (rtorn_any _ _ _ _ _ _ _ _ _ _ _ _ _ C2.out W2.out P2.out (by omega)).mono ?_
        rintro e w3 ⟨v3, rfl, o3, k3⟩
        obtain ⟨A3, c3, rfl, bs3, -⟩ := o3.shape
        have TL := tornN_len8 (ps := pk) CW.out
        rw [LEN8.out] at TL
        rw [TL] at bs3 ⊢
        have F3 := Lib.hid (F2.out.later k3)
        have K3 : Hid (Keeps (fun k => k = bf ∨ k = gb ∨ k = ge) w w3) := K2.out.trans k3 (fun _ h => h) (fun _ _ h => h.elim)
        have SE := Lib.hid (rfset_any B _ s1.stepped bf p A3 8 c3 _ w3 F3.out rfl bs3 hpN (fun b off _ e e2 => by
          subst e
          have := F2.out.lt b (by subst e2; exact .inl (.inr (.inl rfl)))
          exact o3.notBelow this rfl))
        clear o3 k3 bs3 TL
        go_wp2_with fail
        refine SE.out.mono ?_
        rintro e w4 ⟨rfl, h4, k4⟩
        have H4 := Lib.hid h4
        have K4 : Hid (Keeps (fun k => k = bf ∨ k = gb ∨ k = ge) w w4) := K3.out.trans k4 (fun _ h => h) (fun _ _ h => .inr (.inl h))
        have z4 := h4.f.frozen 4
        have y4 := h4.f.cellD 4 _ rfl
        simp only [] at z4 y4
        clear h4 k4 SE
        go_wp2
        go_ret
        have T5 := H4.out.unpick SC.out.1 rfl
        refine ⟨by rw [ER.out]; rfl, ⟨bf, gb, ge, N, capb, n, none, 0, []⟩, ?_, ?_, rfl, rfl, fun k h => ?_⟩
        · rw [ER.out]
          have := T5.at_
          rwa [FS.stepped_b] at this
        · exact (K4.out.trans ((Keeps.self bf w4).put 4 (.slice none 0 0)) (T := fun k => k = bf ∨ k = gb ∨ k = ge) (fun _ h => h) (fun _ _ h => .inl h)).mono (fun _ _ h => .inl h)
        · rcases h with h | h
          · exact .inl (.inl h)
          · cases h
      · have EL : Hid (decide (s1.left = 0) = false) := decide_eq_false h0
        have ER := Lib.hid (progW_go HPR.out h0)
        have SD : Hid (s1.stepped.dark = false) := (stepped_dark h0).trans HDK.out
        clear h0
        go_wp2_with fail
        refine (BRK.out _ HF.out).mono ?_
        rintro e w2 ⟨rfl, kb, hf2⟩
        rw [EL.out]
        have K2 : Hid (Keeps (fun k => k = bf ∨ k = gb ∨ k = ge) w w2) := HKp.out.trans kb (fun _ h => h) (fun _ _ h => .inl h)
        have F2 := Lib.hid hf2
        have W2 := Lib.hid (BW.out w2 K2.out)
        have BL := Lib.hid HF.out.bl
        have SE := Lib.hid (rfset_any B _ s1.stepped bf p _ 8 _ _ w2 F2.out rfl W2.out hpN (fun b off _ e e2 => by
          cases e
          exact NS1.out (.inr (.inl e2))))
        clear kb hf2 HF HKp BW BRK
        go_wp2_with fail
        refine SE.out.mono ?_
        rintro e w4 ⟨rfl, h4, k4⟩
        rw [FS.stepped_b] at h4
        have F4 := Lib.hid h4
        have K4 : Hid (Keeps (fun k => k = bf ∨ k = gb ∨ k = ge) w w4) := K2.out.trans k4 (fun _ h => h) (fun _ _ h => .inr (.inl h))
        clear h4 k4 SE
        go_wp2
        go_roundw
        case rel =>
          refine ⟨j + 1, _, hlt, val_int (by rw [E8.out]; omega), F4.out, SD.out, K4.out, ?_, ?_, ?_, ?_⟩
          · rw [EKj.out, E8.out, EP.out, ← ER.out, List.drop_drop]
          · rw [EKj.out, E8.out, EP.out]
            exact can_rest LEN8.out (by rw [BL.out]; exact hpN) HCN.out
          · exact ST.out.1
          · rw [EKj.out]; exact ST.out.2
        case measure => have := E8.out; simp [intOf]; omega
    · obtain rfl : j = K := by omega
      rw [Nat.sub_self] at hpr
      have ER : Hid (R = (s1, 0)) := hpr.symm
      have HF := Lib.hid hF
      have HKp := Lib.hid hKp
      have x1 : decide (8 * j < m) = false := decide_eq_false (by have := HK.out; omega)
      have x2 : decide (8 * (j : Int) < m) = false := decide_eq_false (by have := HK.out; omega)
      have x3 : decide (((8 * j : Nat) : Int) < m) = false := decide_eq_false (by have := HK.out; omega)
      clear hF hKp hpr hcn hs1 hs2
      go_wp2
      go_ret
      rw [ER.out]
      exact ⟨rfl, _, HF.out, HKp.out.mono (fun _ _ h => .inl h), rfl, rfl, fun _ h => .inl h⟩
end Go.Proofs.Ytngofnlhbhfigaa
