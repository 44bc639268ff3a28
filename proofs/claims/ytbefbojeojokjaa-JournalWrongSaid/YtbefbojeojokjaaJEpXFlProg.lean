
/- The walk of flash.Program. -/
import Derived.Test.YtbefbojeojokjaaJEpXFlWrite
namespace Go.Proofs.Ytbefbojeojokjaa
open Go.RowKit

theorem tornN_len8 {os ns ps : List Int} (h : canN os ns = true) : (tornN os ns ps).length = ns.length := by rw [tornN, if_pos h, tornTo_length]
theorem stepped_steps_le {s : FS} {a b : Int} (h1 : 0 ≤ s.steps) (h2 : s.steps + (a + 1) ≤ b) : 0 ≤ s.stepped.steps ∧ s.stepped.steps + a ≤ b := by rw [FS.stepped_steps]; omega
/-- A word of what is left can be programmed; and what is left then, too. -/
theorem can_word {L zs : List Int} {p k iv : Nat} (h : canN ((L.drop p).take (8 * (k + 1))) (zs.drop iv) = true) : canN ((L.drop p).take 8) ((zs.drop iv).take 8) = true := by
  have := canN_take h 8
  rwa [List.take_take, Nat.min_eq_left (by omega)] at this
theorem can_rest {L zs X : List Int} {p k iv : Nat} (hX : X.length = 8) (hp : p + 8 ≤ L.length) (h : canN ((L.drop p).take (8 * (k + 1))) (zs.drop iv) = true) : canN (((splice L p X).drop (p + 8)).take (8 * k)) (zs.drop (iv + 8)) = true := by
  have h2 := canN_drop h 8
  rw [List.drop_take, List.drop_drop, List.drop_drop] at h2
  rw [splice_drop _ _ _ _ (by omega) (by omega)]
  have e : 8 * (k + 1) - 8 = 8 * k := by omega
  rwa [e] at h2
theorem progW_cut {k : Nat} {s : FS} {p : Nat} {ws : List Int} {R : FS × Int} (h : progW (k + 1) s p ws = R) (h0 : s.left = 0) : R = ({ s.stepped with b := splice s.b p (tornN ((s.b.drop p).take 8) (ws.take 8) s.pick) }, 5) := by
  rw [← h]; show (if _ then _ else _) = _; rw [if_pos h0]
theorem progW_go {k : Nat} {s : FS} {p : Nat} {ws : List Int} {R : FS × Int} (h : progW (k + 1) s p ws = R) (h0 : ¬ s.left = 0) : progW k { s.stepped with b := splice s.b p (ws.take 8) } (p + 8) (ws.drop 8) = R := by
  rw [← h]; show _ = (if _ then _ else _); rw [if_neg h0]

/-- What Program leaves. -/
def ProgTold (w : World) (B : Nat) (L : FL) (r : FS × Int) (e : Ending) (w' : World) : Prop := e = .returned (.int .i64 r.2) ∧ ∃ L', Turn w w' B L L' r.1


set_option maxRecDepth 100000 in
set_option maxHeartbeats 1600000 in
theorem fprogram_any (B : Nat) (L : FL) (s : FS) (a : Int) (A : Option Addr) (m c : Nat) (zs : List Int) (w : World) (h : FAt w B L s) (hb : Bs w A m c zs) (hst : 0 ≤ s.steps ∧ s.steps + m ≤ 1000000000000)
    (hA : ∀ b off, 0 < m → A = some ⟨b, off, none⟩ → ¬ L.S b) : Calls Try.prog 90 #[L.p, .int .i64 a, .slice A m c] w (ProgTold w B L (s.progF a zs)) := by
  have WI := Lib.hid (fwithin_any B L s a m w h)
  have hbl := h.bl
  have hml := hb.len
  have hle := hb.le
  have hmx := hb.max
  have PF : Hid (s.progF a zs = if s.dark = true then (s, 5) else if withinB a m L.N = false then (s, 2) else if a % 8 ≠ 0 ∨ m % 8 ≠ 0 then (s, 3) else if canN ((s.b.drop a.toNat).take m) zs = false then (s, 4) else progW (m / 8) s a.toNat zs) := by
    show s.progF a zs = _
    unfold FS.progF; rw [hbl, hml]
  have HT := Lib.hid (Turn.self h)
  obtain ⟨L0, hL0⟩ : ∃ x, x = L := ⟨_, rfl⟩
  have HL0 := Lib.hid hL0
  rw [← hL0] at HT
  clear hL0 hbl
  cases hd : s.dark with
  | true =>
    rw [hd] at PF
    have PG : Hid (s.progF a zs = (s, 5)) := by show _ = _; rw [PF.out, if_pos rfl]
    clear WI hb hA
    obtain ⟨bf, gb, ge, N, capb, n, af, pA, pc, pk⟩ := L
    have c0 := h.f.cellD 0 _ rfl
    have c1 := h.f.cellD 1 _ rfl
    have c2 := h.f.cellD 2 _ rfl
    have c3 := h.f.cellD 3 _ rfl
    have c4 := h.f.cellD 4 _ rfl
    have c5 := h.f.cellD 5 _ rfl
    have c6 := h.f.cellD 6 _ rfl
    have hcap := h.bs.le
    have hcmx := h.bs.max
    have hN := h.nN
    have hn0 := h.n0
    have hn9 := h.n9
    have H := Lib.hid h
    simp only [] at c0 c1 c2 c3 c4 c5 c6 hcap hcmx hN hn0 hn9
    have hNb : N ≤ 262144 := by omega
    have hN1 : 1024 ≤ N := by omega
    have HN := Lib.hid hN
    clear h hN
    simp only [FL.p, FL.pv]
    rw [HL0.out] at HT
    rw [hd] at c3
    clear hd HL0
    go_enter Try.func90, Try.ntmps90
    go_wp2
    go_ret
    rw [PG.out]
    exact ⟨rfl, _, HT.out⟩
  | false =>
  rw [hd] at PF
  cases hw : withinB a m L.N with
  | false =>
    rw [hw] at PF WI
    have PG : Hid (s.progF a zs = (s, 2)) := by show _ = _; rw [PF.out, if_neg (by decide), if_pos rfl]
    clear hb hA hw
    obtain ⟨bf, gb, ge, N, capb, n, af, pA, pc, pk⟩ := L
    have c0 := h.f.cellD 0 _ rfl
    have c1 := h.f.cellD 1 _ rfl
    have c2 := h.f.cellD 2 _ rfl
    have c3 := h.f.cellD 3 _ rfl
    have c4 := h.f.cellD 4 _ rfl
    have c5 := h.f.cellD 5 _ rfl
    have c6 := h.f.cellD 6 _ rfl
    have hcap := h.bs.le
    have hcmx := h.bs.max
    have hN := h.nN
    have hn0 := h.n0
    have hn9 := h.n9
    have H := Lib.hid h
    simp only [] at c0 c1 c2 c3 c4 c5 c6 hcap hcmx hN hn0 hn9
    have hNb : N ≤ 262144 := by omega
    have hN1 : 1024 ≤ N := by omega
    have HN := Lib.hid hN
    clear h hN
    simp only [FL.p, FL.pv]
    rw [HL0.out] at HT
    rw [hd] at c3
    clear hd HL0
    simp only [FL.p] at WI
    go_enter Try.func90, Try.ntmps90
    go_wp2_with fail
    refine WI.out.mono ?_
    rintro e w' ⟨rfl, rfl⟩
    go_wp2
    go_ret
    rw [PG.out]
    exact ⟨rfl, _, HT.out⟩
  | true =>
  rw [hw] at PF WI
  obtain ⟨i, j, rfl, hj, hij⟩ := within_nat hw
  obtain rfl : m = j := by omega
  simp only [Int.toNat_natCast] at PF
  clear hw hj
  by_cases g1 : i % 8 = 0
  case neg =>
    have PG : Hid (s.progF i zs = (s, 3)) := by show _ = _; rw [PF.out, if_neg (by decide), if_neg (by decide), if_pos (.inl (by omega))]
    have e1 : ((i : Int) % 8 != 0) = true := by simp; omega
    clear hb hA
    obtain ⟨bf, gb, ge, N, capb, n, af, pA, pc, pk⟩ := L
    have c0 := h.f.cellD 0 _ rfl
    have c1 := h.f.cellD 1 _ rfl
    have c2 := h.f.cellD 2 _ rfl
    have c3 := h.f.cellD 3 _ rfl
    have c4 := h.f.cellD 4 _ rfl
    have c5 := h.f.cellD 5 _ rfl
    have c6 := h.f.cellD 6 _ rfl
    have hcap := h.bs.le
    have hcmx := h.bs.max
    have hN := h.nN
    have hn0 := h.n0
    have hn9 := h.n9
    have H := Lib.hid h
    simp only [] at c0 c1 c2 c3 c4 c5 c6 hcap hcmx hN hn0 hn9
    have hNb : N ≤ 262144 := by omega
    have hN1 : 1024 ≤ N := by omega
    have HN := Lib.hid hN
    clear h hN
    simp only [FL.p, FL.pv]
    rw [HL0.out] at HT
    rw [hd] at c3
    clear hd HL0
    simp only [FL.p] at WI
    go_enter Try.func90, Try.ntmps90
    go_wp2_with fail
    refine WI.out.mono ?_
    rintro e w' ⟨rfl, rfl⟩
    go_wp2
    go_ret
    rw [PG.out]
    exact ⟨rfl, _, HT.out⟩
  have e1 : ((i : Int) % 8 != 0) = false := by simp; omega
  by_cases g2 : m % 8 = 0
  case neg =>
    have PG : Hid (s.progF i zs = (s, 3)) := by show _ = _; rw [PF.out, if_neg (by decide), if_neg (by decide), if_pos (.inr g2)]
    have e2 : ((m : Int) % 8 != 0) = true := by simp; omega
    clear hb hA
    obtain ⟨bf, gb, ge, N, capb, n, af, pA, pc, pk⟩ := L
    have c0 := h.f.cellD 0 _ rfl
    have c1 := h.f.cellD 1 _ rfl
    have c2 := h.f.cellD 2 _ rfl
    have c3 := h.f.cellD 3 _ rfl
    have c4 := h.f.cellD 4 _ rfl
    have c5 := h.f.cellD 5 _ rfl
    have c6 := h.f.cellD 6 _ rfl
    have hcap := h.bs.le
    have hcmx := h.bs.max
    have hN := h.nN
    have hn0 := h.n0
    have hn9 := h.n9
    have H := Lib.hid h
    simp only [] at c0 c1 c2 c3 c4 c5 c6 hcap hcmx hN hn0 hn9
    have hNb : N ≤ 262144 := by omega
    have hN1 : 1024 ≤ N := by omega
    have HN := Lib.hid hN
    clear h hN
    simp only [FL.p, FL.pv]
    rw [HL0.out] at HT
    rw [hd] at c3
    clear hd HL0
    simp only [FL.p] at WI
    go_enter Try.func90, Try.ntmps90
    go_wp2_with fail
    refine WI.out.mono ?_
    rintro e w' ⟨rfl, rfl⟩
    go_wp2
    go_ret
    rw [PG.out]
    exact ⟨rfl, _, HT.out⟩
  have e2 : ((m : Int) % 8 != 0) = false := by simp; omega
  have DI := Lib.hid (fdirty_any B L s i A m c zs w h hb hij)
  cases hc : canN ((s.b.drop i).take m) zs with
  | false =>
    rw [hc] at PF DI
    have PG : Hid (s.progF i zs = (s, 4)) := by show _ = _; rw [PF.out, if_neg (by decide), if_neg (by decide), if_neg (by omega), if_pos rfl]
    clear hb hA hc
    obtain ⟨bf, gb, ge, N, capb, n, af, pA, pc, pk⟩ := L
    have c0 := h.f.cellD 0 _ rfl
    have c1 := h.f.cellD 1 _ rfl
    have c2 := h.f.cellD 2 _ rfl
    have c3 := h.f.cellD 3 _ rfl
    have c4 := h.f.cellD 4 _ rfl
    have c5 := h.f.cellD 5 _ rfl
    have c6 := h.f.cellD 6 _ rfl
    have hcap := h.bs.le
    have hcmx := h.bs.max
    have hN := h.nN
    have hn0 := h.n0
    have hn9 := h.n9
    have H := Lib.hid h
    simp only [] at c0 c1 c2 c3 c4 c5 c6 hcap hcmx hN hn0 hn9
    have hNb : N ≤ 262144 := by omega
    have hN1 : 1024 ≤ N := by omega
    have HN := Lib.hid hN
    clear h hN
    simp only [FL.p, FL.pv]
    rw [HL0.out] at HT
    rw [hd] at c3
    clear hd HL0
    simp only [FL.p] at WI DI
    go_enter Try.func90, Try.ntmps90
    go_wp2_with fail
    refine WI.out.mono ?_
    rintro e w' ⟨rfl, rfl⟩
    go_wp2_with fail
    refine DI.out.mono ?_
    rintro e w1 ⟨rfl, q, rfl⟩
    go_wp2
    go_ret
    rw [PG.out]
    exact ⟨rfl, _, ⟨HT.out.at_.later ((Keeps.refl None w).drewN q), (Keeps.refl _ w).drewN q, rfl, rfl, fun _ h => .inl h⟩⟩
  | true =>
  rw [hc] at PF DI
  obtain ⟨K, hK⟩ : ∃ K, m = 8 * K := ⟨m / 8, by omega⟩
  obtain ⟨R, hR⟩ : ∃ R, progW K s i zs = R := ⟨_, rfl⟩
  have PG : Hid (s.progF i zs = R) := by
    show _ = _
    rw [PF.out, if_neg (by decide), if_neg (by decide), if_neg (by omega), if_neg (by decide), ← hR, hK, Nat.mul_div_cancel_left _ (by decide)]
  rw [PG.out]
  have HR := Lib.hid hR
  have HC := Lib.hid hc
  have HML := Lib.hid hml
  have HB := Lib.hid hb
  have HA := Lib.hid hA
  have hK8 : m ≤ 262144 := by have := h.nN; have := h.n9; omega
  have HK := Lib.hid hK
  obtain ⟨st1, st2⟩ := hst
  clear hb hA hc PF PG hR hml HT hK
  obtain ⟨bf, gb, ge, N, capb, n, af, pA, pc, pk⟩ := L
  have c0 := h.f.cellD 0 _ rfl
  have c1 := h.f.cellD 1 _ rfl
  have c2 := h.f.cellD 2 _ rfl
  have c3 := h.f.cellD 3 _ rfl
  have c4 := h.f.cellD 4 _ rfl
  have c5 := h.f.cellD 5 _ rfl
  have c6 := h.f.cellD 6 _ rfl
  have hcap := h.bs.le
  have hcmx := h.bs.max
  have hN := h.nN
  have hn0 := h.n0
  have hn9 := h.n9
  have H := Lib.hid h
  simp only [] at c0 c1 c2 c3 c4 c5 c6 hcap hcmx hN hn0 hn9
  have hNb : N ≤ 262144 := by omega
  have hN1 : 1024 ≤ N := by omega
  have HN := Lib.hid hN
  clear h hN
  simp only [FL.p, FL.pv]
  rw [hd] at c3
  clear hd HL0
  simp only [FL.p] at WI DI
  simp only [FL.S] at HA
  simp only [] at hij
  go_enter Try.func90, Try.ntmps90
  go_wp2_with fail
  refine WI.out.mono ?_
  rintro e w' ⟨rfl, rfl⟩
  go_wp2_with fail
  refine DI.out.mono ?_
  rintro e w1 ⟨rfl, q0, rfl⟩
  go_wp2
  have D0 : Hid (Keeps (fun k => k = bf ∨ k = gb ∨ k = ge) w (w.drewN q0)) := (Keeps.refl _ w).drewN q0
  have H0 := Lib.hid (H.out.later ((Keeps.refl None w).drewN q0))
  clear WI DI c0 c1 c2 c3 c4 c5 c6
  go_loopw [7] (fun iv wr => ∃ (j : Nat) (s1 : FS) (af1 : Int), j ≤ K ∧ iv = .int .i64 (8 * j : Nat) ∧ FAt wr B ⟨bf, gb, ge, N, capb, n, af1, pA, pc, pk⟩ s1 ∧ Keeps (fun k => k = bf ∨ k = gb ∨ k = ge) w wr ∧ progW (K - j) s1 (i + 8 * j) (zs.drop (8 * j)) = R ∧ canN ((s1.b.drop (i + 8 * j)).take (8 * (K - j))) (zs.drop (8 * j)) = true ∧ 0 ≤ s1.steps ∧ s1.steps + (K - j : Nat) ≤ 1000000000000) (fun iv _ => 8 * K - (intOf iv).toNat)
  case atStart =>
    refine ⟨0, s, af, Nat.zero_le _, rfl, H0.out, D0.out, by simpa using HR.out, ?_, st1, by have := HK.out; omega⟩
    have := HC.out
    rw [HK.out] at this
    simpa using this
  case round =>
    obtain ⟨j, s1, af1, hjK, rfl, hF, hKp, hpr, hcn, hs1, hs2⟩ := hrel
    obtain ⟨wv, rfl⟩ : ∃ x, x = wr := ⟨_, rfl⟩
    clear H0 D0
    by_cases hlt : j < K
    · obtain ⟨k, hk⟩ : ∃ k, K - j = k + 1 := ⟨K - j - 1, by omega⟩
      rw [hk] at hpr hcn hs2
      obtain ⟨iv, hiv⟩ : ∃ iv, 8 * j = iv := ⟨_, rfl⟩
      obtain ⟨p, hp⟩ : ∃ p, i + iv = p := ⟨_, rfl⟩
      rw [hiv] at hpr hcn ⊢
      rw [hp] at hpr hcn
      have hm8 : iv + 8 ≤ m := by have := HK.out; omega
      have hpN : p + 8 ≤ N := by omega
      have x1 : decide (iv < m) = true := decide_eq_true (by omega)
      have x2 : decide ((iv : Int) < m) = true := decide_eq_true (by omega)
      have CW := Lib.hid (can_word hcn)
      have HF := Lib.hid hF
      have HKp := Lib.hid hKp
      have y0 := hF.f.cellD 0 _ rfl
      simp only [] at y0
      obtain ⟨bb, bo, hAe, hbb, -⟩ := HB.out.at_ (by omega)
      subst hAe
      have NS1 := HA.out bb bo (by omega) rfl
      have ce : ¬ c = iv := by omega
      have cpe : ¬ capb = p := by omega
      have w1 : IntKind.i64.wrap ((i : Int) + iv) = p := by rw [show (i : Int) + iv = (p : Int) by omega]; exact wrap_nat _ (by omega)
      have w2 : IntKind.i64.wrap ((p : Int) + 8) = p + 8 := IntWalk.i64_in _ (by omega)
      have w3 : IntKind.i64.wrap ((iv : Int) + 8) = iv + 8 := IntWalk.i64_in _ (by omega)
      have w4 : p + 8 - p = 8 := by omega
      have w5 : iv + 8 - iv = 8 := by omega
      have BRK := Lib.hid (fun w' (hh : FAt w' B ⟨bf, gb, ge, N, capb, n, af1, pA, pc, pk⟩ s1) => fbroken_any B _ s1 w' hh ⟨hs1, by omega⟩)
      have BW := Lib.hid (fun w' (hh : Keeps (fun k => k = bf ∨ k = gb ∨ k = ge) w w') => Bs.take (k := 8) ((HB.out.keeps hh (fun b off _ _ e => by cases e; exact NS1)).drop (k := iv) (by omega)) (by omega))
      have HCN := Lib.hid hcn
      have HPR := Lib.hid hpr
      have LEN8 : Hid (((zs.drop iv).take 8).length = 8) := by show ((zs.drop iv).take 8).length = 8; rw [List.length_take, List.length_drop, HML.out]; omega
      have ST := Lib.hid (stepped_steps_le (s := s1) (a := (k : Int)) (b := 1000000000000) hs1 (by omega))
      have E8 : Hid (8 * (j + 1) = iv + 8) := by show 8 * (j + 1) = iv + 8; omega
      have EKj : Hid (K - (j + 1) = k) := by show K - (j + 1) = k; omega
      have EP : Hid (i + (iv + 8) = p + 8) := by show i + (iv + 8) = p + 8; omega
      clear hF hKp hcn hpr hs1 hs2 hiv hp hk
      go_wp2
      obtain ⟨mS, mh⟩ : ∃ S : World → Prop, ∀ w', S w' ↔ (w'.cell? ⟨bf, 0, none⟩ = some (.slice (some ⟨gb, 0, none⟩) N capb)) := ⟨_, fun _ => Iff.rfl⟩
      have mk0 : ∀ x : Memb mS, x.at_.cell? ⟨bf, 0, none⟩ = some (.slice (some ⟨gb, 0, none⟩) N capb) := fun x => ((mh _).1 x.is)
      have mn : Nonempty (Memb mS) := ⟨⟨(wv).drew, (mh _).2 (y0)⟩⟩
      have mH := Lib.hid mh
      clear mh
      refine wp_region_mix [] (InS mS) (by kernel_rfl) (by kernel_rfl) (InS.mk ((mH.out _).2 (y0))) ?_
      refine wpMix_seg 19 (by kernel_rfl) (by decide) ?_
      simp only [List.take_succ_cons, List.take_zero, List.drop_succ_cons, List.drop_zero]
      repeat (go_big_quiet_step (fail))
      refine wpQuiet_nil ?_
      refine wpMix_nil ?_
      clear mk0 mn mH
      rw [w4, w5]
      clear w1 w2 w3 w4 w5 y0
      by_cases h0 : s1.left = 0
      · have EL : Hid (decide (s1.left = 0) = true) := decide_eq_true h0
        have ER := Lib.hid (progW_cut HPR.out h0)
        have hpk := (HF.out.armed (by omega)).2
        simp only [] at hpk
        have HPK := Lib.hid hpk
        rw [← HPK.out] at ER
        clear h0 hpk HPK
        go_wp2_with fail
        refine (BRK.out _ HF.out.drew).mono ?_
        rintro e w2 ⟨rfl, kb, af2, hf2⟩
        rw [EL.out]
        have y6 := hf2.f.cellD 6 _ rfl
        simp only [] at y6
        have K2 : Hid (Keeps (fun k => k = bf ∨ k = gb ∨ k = ge) w w2) := HKp.out.drew.trans kb (fun _ h => h) (fun _ _ h => .inl h)
        have F2 := Lib.hid hf2
        have C2 : Hid (Bs w2 (some ⟨gb, p, none⟩) 8 (capb - p) ((s1.b.drop p).take 8)) := by have := hf2.cut (i := p) (j := 8) hpN; rwa [FS.stepped_b] at this
        have P2 : Hid (Bs w2 pA pk.length pc pk) := ownBs (show Own w2 B (.slice pA pk.length pc) pk from hf2.p)
        have W2 := Lib.hid (BW.out w2 K2.out)
        clear kb hf2 HF HKp BW BRK
        go_wp2_with fail
        refine (torn_any _ _ _ _ _ _ _ _ _ _ _ _ _ C2.out W2.out P2.out (by omega)).mono ?_
        rintro e w3 ⟨v3, rfl, o3, k3⟩
        obtain ⟨A3, c3, rfl, bs3, -⟩ := o3.shape
        have TL := tornN_len8 (ps := pk) CW.out
        rw [LEN8.out] at TL
        rw [TL] at bs3 ⊢
        have TT : Hid ((tornN ((s1.b.drop p).take 8) ((zs.drop iv).take 8) pk).take 8 = tornN ((s1.b.drop p).take 8) ((zs.drop iv).take 8) pk) := List.take_of_length_le (by omega)
        have B3 := Lib.hid bs3
        have F3 := Lib.hid (F2.out.later k3)
        have K3 : Hid (Keeps (fun k => k = bf ∨ k = gb ∨ k = ge) w w3) := K2.out.trans k3 (fun _ h => h) (fun _ _ h => h.elim)
        clear o3 k3 bs3 TL
        go_wp2_with (with_reducible refine wpList_copy_bs (B := B) (g := gb) (off := p) (n := N) (cap := capb) rfl rfl rfl rfl (by first | (intro _; rfl) | (intro h0; omega)) F3.out.b B3.out (by omega) ?_)
        intro w4 o4 k4
        rw [TT.out] at o4
        have O4 := Lib.hid o4
        have K4 := Lib.hid k4
        clear o4 k4
        go_wp2
        go_ret
        have F4 := F3.out.bytes K4.out O4.out
        rw [FS.stepped_b] at F4
        refine ⟨by rw [ER.out]; rfl, ⟨bf, gb, ge, N, capb, n, af2, pA, pc, pk⟩, ?_, (K3.out.trans K4.out (T := fun k => k = bf ∨ k = gb ∨ k = ge) (fun _ h => h) (fun _ _ h => .inr (.inl h))).mono (fun _ _ h => .inl h), rfl, rfl, fun _ h => .inl h⟩
        rw [ER.out]
        exact F4
      · have EL : Hid (decide (s1.left = 0) = false) := decide_eq_false h0
        have ER := Lib.hid (progW_go HPR.out h0)
        clear h0
        go_wp2_with fail
        refine (BRK.out _ HF.out.drew).mono ?_
        rintro e w2 ⟨rfl, kb, af2, hf2⟩
        rw [EL.out]
        have K2 : Hid (Keeps (fun k => k = bf ∨ k = gb ∨ k = ge) w w2) := HKp.out.drew.trans kb (fun _ h => h) (fun _ _ h => .inl h)
        have F2 := Lib.hid hf2
        have C2 : Hid (Bs w2 (some ⟨gb, p, none⟩) 8 (capb - p) ((s1.b.drop p).take 8)) := by have := hf2.cut (i := p) (j := 8) hpN; rwa [FS.stepped_b] at this
        have W2 := Lib.hid (BW.out w2 K2.out)
        have BL := Lib.hid HF.out.bl
        clear kb hf2 HF HKp BW BRK
        go_wp2_with fail
        refine (program_any _ _ _ _ _ _ _ _ _ C2.out W2.out (by omega)).mono ?_
        rintro e w3 ⟨v3, rfl, o3, k3⟩
        rw [show progN ((s1.b.drop p).take 8) ((zs.drop iv).take 8) = (zs.drop iv).take 8 from if_pos CW.out] at o3
        obtain ⟨A3, c3, rfl, bs3, -⟩ := o3.shape
        rw [LEN8.out] at bs3 ⊢
        have TT : Hid (((zs.drop iv).take 8).take 8 = (zs.drop iv).take 8) := List.take_of_length_le (by rw [LEN8.out]; exact Nat.le_refl _)
        have B3 := Lib.hid bs3
        have F3 := Lib.hid (F2.out.later k3)
        have K3 : Hid (Keeps (fun k => k = bf ∨ k = gb ∨ k = ge) w w3) := K2.out.trans k3 (fun _ h => h) (fun _ _ h => h.elim)
        clear o3 k3 bs3
        go_wp2_with (with_reducible refine wpList_copy_bs (B := B) (g := gb) (off := p) (n := N) (cap := capb) rfl rfl rfl rfl (by first | (intro _; rfl) | (intro h0; omega)) F3.out.b B3.out (by omega) ?_)
        intro w4 o4 k4
        rw [TT.out, FS.stepped_b] at o4
        have F4 := Lib.hid (F3.out.bytes k4 o4)
        have K4 : Hid (Keeps (fun k => k = bf ∨ k = gb ∨ k = ge) w w4) := K3.out.trans k4 (fun _ h => h) (fun _ _ h => .inr (.inl h))
        clear o4 k4
        go_wp2
        go_roundw
        case rel =>
          refine ⟨j + 1, _, af2, hlt, val_int (by rw [E8.out]; omega), F4.out, K4.out, ?_, ?_, ?_, ?_⟩
          · rw [EKj.out, E8.out, EP.out, ← ER.out, List.drop_drop]
          · rw [EKj.out, E8.out, EP.out]
            exact can_rest LEN8.out (by rw [BL.out]; exact hpN) HCN.out
          · exact ST.out.1
          · rw [EKj.out]; exact ST.out.2
        case measure => have := E8.out; simp [intOf]; omega
    · obtain rfl : j = K := by omega
      rw [Nat.sub_self] at hpr
      have ER : Hid (R = (s1, 0)) := hpr.symm
      have HF := Lib.hid hF
      have HKp := Lib.hid hKp
      have x1 : decide (8 * j < m) = false := decide_eq_false (by have := HK.out; omega)
      have x2 : decide (8 * (j : Int) < m) = false := decide_eq_false (by have := HK.out; omega)
      have x3 : decide (((8 * j : Nat) : Int) < m) = false := decide_eq_false (by have := HK.out; omega)
      clear hF hKp hpr hcn hs1 hs2
      go_wp2
      go_ret
      refine ⟨by rw [ER.out]; rfl, ⟨bf, gb, ge, N, capb, n, af1, pA, pc, pk⟩, ?_, HKp.out.mono (fun _ _ h => .inl h), rfl, rfl, fun _ h => .inl h⟩
      rw [ER.out]
      exact HF.out
end Go.Proofs.Ytbefbojeojokjaa
