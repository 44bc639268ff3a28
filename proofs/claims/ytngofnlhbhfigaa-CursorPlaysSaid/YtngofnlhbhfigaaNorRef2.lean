/- The walks of the reference's functions on cells: Program, Torn, Between, Half, Risen. -/
import Derived.Test.YtngofnlhbhfigaaNorRef
namespace Go.Proofs.Ytngofnlhbhfigaa
open Go.RowKit

theorem getD_set_self (l : List Int) (k : Nat) (v : Int) (h : k < l.length) : (l.set k v).getD k 0 = v := by simp [List.getD, h]
theorem Own.cellAt {w : World} {B : Nat} {g n cap : Nat} {zs : List Int} (h : Own w B (.slice (some ⟨g, 0, none⟩) n cap) zs) {k : Nat} (hk : k < n) :
    w.cell? ⟨g, k, none⟩ = some (.int .u8 (zs.getD k 0)) ∧ w.frozen? ⟨g, k, none⟩ = false := by
  obtain ⟨g', e, _, _, _, _, _, h1, h2⟩ := h.at_ hk
  cases e
  exact ⟨h1, h2⟩



set_option maxRecDepth 100000 in
set_option maxHeartbeats 1600000 in
theorem rtorn_any (A1 A2 A3 : Option Addr) (n1 c1 n2 c2 n3 c3 : Nat) (os ns ps : List Int) (w : World) (h1 : Bs w A1 n1 c1 os) (h2 : Bs w A2 n2 c2 ns) (h3 : Bs w A3 n3 c3 ps) (hn : n2 ≤ 1099511627776) :
    Calls Try.prog 99 #[.slice A1 n1 c1, .slice A2 n2 c2, .slice A3 n3 c3] w (Cloned w (tornN os ns ps)) := by
  have HC := Lib.hid (rcan_any A1 A2 n1 c1 n2 c2 os ns w h1 h2)
  cases hc : canN os ns with
  | false =>
    rw [hc] at HC
    have FIN : Hid (tornN os ns ps = []) := by show tornN os ns ps = []; simp [tornN, hc]
    clear hc h1 h2 h3
    go_enter Try.func99, Try.ntmps99
    go_wp2_with fail
    refine HC.out.mono ?_
    rintro e w1 ⟨rfl, m, rfl⟩
    go_wp2
    go_ret
    rw [FIN.out]
    exact ⟨_, rfl, Own.nil _ _, (Keeps.refl _ _).drewN m⟩
  | true =>
    rw [hc] at HC
    have hlen : os.length = ns.length := by simp only [canN, decide_eq_true_eq] at hc; exact hc.1
    have hl1 := h1.len
    have hl2 := h2.len
    obtain rfl : n1 = n2 := by omega
    have FIN : Hid (edTo (tornAt os ns ps) ns n1 = tornN os ns ps) := by
      show edTo (tornAt os ns ps) ns n1 = tornN os ns ps
      rw [tornN, if_pos hc, ← hl2]; rfl
    have H1 := Lib.hid h1
    have H2 := Lib.hid h2
    have H3 := Lib.hid h3
    have HL2 := Lib.hid hl2
    have hle1 := h1.le
    have hmx1 := h1.max
    have hle2 := h2.le
    have hmx2 := h2.max
    have HTA : Hid (∀ i, tornAt os ns ps i = bits .or .u8 (ns.getD i 0) (bits .and .u8 (os.getD i 0) (ps.getD i 0))) := by show ∀ i, _ = _; intro i; rfl
    have HTZ := Lib.hid (edTo_zero (tornAt os ns ps) ns)
    have HTS := Lib.hid (fun k hk => edTo_succ (tornAt os ns ps) ns k hk)
    have HTL := Lib.hid (fun k => edTo_length (tornAt os ns ps) ns k)
    have HTG := Lib.hid (fun k => edTo_getD (tornAt os ns ps) ns k k)
    clear hc h1 h2 h3 hlen hl1 hl2
    generalize tornAt os ns ps = f at *
    go_enter Try.func99, Try.ntmps99
    go_wp2_with fail
    refine HC.out.mono ?_
    rintro e w1 ⟨rfl, m0, rfl⟩
    go_wp2_with (at_builtin; refine Hid.out ?_)
    refine Lib.hid ?_
    refine wpList_append_bs (Own.nil _ (w.drewN m0).heap.size) (H2.out.drewN m0) (by simp; omega) (Nat.le_refl _) rfl rfl rfl rfl rfl ?_
    intro v3 w3 ho3 hk3
    rw [List.nil_append] at ho3
    obtain ⟨A, cap, rfl, bs3, -⟩ := ho3.shape
    have hle := bs3.le
    have hmx := bs3.max
    rw [HL2.out] at hle ho3 ⊢
    have K3 : Hid (Keeps (fun b => w.heap.size ≤ b) w w3) := ((Keeps.refl None w).drewN m0).trans hk3 (fun _ h => h.elim) (fun i hi e => by simp [Value.ownBlock] at e)
    have O3 : Hid (Own w3 w.heap.size (.slice A n1 cap) ns) := ho3
    clear ho3 hk3 bs3 HC
    go_wp2
    go_loopw [8] (fun i wr => ∃ k : Nat, k ≤ n1 ∧ i = .int .i64 k ∧ Own wr w.heap.size (.slice A n1 cap) (edTo f ns k) ∧ Keeps (fun b => w.heap.size ≤ b) w wr) (fun i _ => n1 - (intOf i).toNat)
    case atStart => exact ⟨0, Nat.zero_le _, rfl, by rw [HTZ.out]; exact O3.out, K3.out⟩
    case round =>
      obtain ⟨k, hkn, rfl, hO, hK⟩ := hrel
      obtain ⟨wv, rfl⟩ : ∃ x, x = wr := ⟨_, rfl⟩
      have HO := Lib.hid hO
      have HK := Lib.hid hK
      clear hO hK O3 K3
      by_cases hlt : k < n1
      · obtain ⟨g, rfl, hg1, -, -, -, -, -, -⟩ := HO.out.at_ hlt
        obtain ⟨b1, o1, z1, rfl, g1, z1a, z1b, cc1⟩ := H1.out.get hlt
        obtain ⟨b2, o2, z2, rfl, g2, z2a, z2b, cc2⟩ := H2.out.get hlt
        have hb1 : b1 < w.heap.size := by obtain ⟨b, off, e, hb, _⟩ := H1.out.at_ (by omega); cases e; exact hb
        have hb2 : b2 < w.heap.size := by obtain ⟨b, off, e, hb, _⟩ := H2.out.at_ (by omega); cases e; exact hb
        have z3b := byte_getD H3.out.byte k
        have RP := Lib.hid (fun w' (h : Keeps (fun b => w.heap.size ≤ b) w w') => rpicked_any A3 n3 c3 ps k w' (H3.out.later h) (by omega))
        have HF := Lib.hid (HTA.out k)
        rw [g1, g2] at HF
        generalize ps.getD k 0 = z3 at *
        obtain ⟨x1, rfl⟩ := Int.eq_ofNat_of_zero_le z1a
        obtain ⟨x2, rfl⟩ := Int.eq_ofNat_of_zero_le z2a
        obtain ⟨x3, rfl⟩ := Int.eq_ofNat_of_zero_le z3b.1
        have hx1 : x1 < 256 := by omega
        have hx2 : x2 < 256 := by omega
        have hx3 : x3 < 256 := by omega
        have hm : x1 &&& x3 < 256 := Nat.lt_of_le_of_lt Nat.and_le_left hx1
        have HF2 : Hid (f k = ((onto x2 (x1 &&& x3) 8 : Nat) : Int)) := by
          show f k = _
          rw [HF.out, onto_all _ _ hm, u8_and _ _ (by omega) (by omega) (by omega) (by omega), Int.toNat_natCast, Int.toNat_natCast, u8_or _ _ (by omega) (by omega) (by omega) (by omega), Int.toNat_natCast, Int.toNat_natCast]
        have HAB := Lib.hid (fun q => and_bit x1 x3 q)
        have HS := HTS.out k (by rw [HL2.out]; exact hlt)
        rw [HF2.out] at HS
        have HLL := HTL.out k
        rw [HL2.out] at HLL
        have HGG := HTG.out k
        rw [if_pos (by rw [HL2.out]; exact hlt), if_neg (Nat.lt_irrefl _), g2] at HGG
        have HS1 := Lib.hid HS
        have HLL1 := Lib.hid HLL
        have H0 : Hid ((edTo f ns k).set k ((onto x2 (x1 &&& x3) 0 : Nat) : Int) = edTo f ns k) := by
          show (edTo f ns k).set k _ = _
          rw [onto_zero, ← HGG]; exact set_getD_self _ _
        clear HS HLL HGG g1 g2 HF HF2
        generalize hl0 : edTo f ns k = l0 at *
        generalize x1 &&& x3 = m at *
        clear hl0
        go_wp2
        go_loopw [9] (fun j wr => ∃ q : Nat, q ≤ 8 ∧ j = .int .i64 q ∧ Own wr w.heap.size (.slice (some ⟨g, 0, none⟩) n1 cap) (l0.set k ((onto x2 m q : Nat) : Int)) ∧ Keeps (fun b => w.heap.size ≤ b) w wr) (fun j _ => 8 - (intOf j).toNat)
        case atStart => exact ⟨0, by omega, rfl, by rw [H0.out]; exact HO.out, HK.out⟩
        case round =>
          obtain ⟨q, hq, rfl, hOI, hKI⟩ := hrel
          have HOI := Lib.hid hOI
          have HKI := Lib.hid hKI
          have cd1 := (hKI.cell (p := ⟨b1, o1 + k, none⟩) hb1 (by simp; exact hb1)).trans cc1
          have cd2 := (hKI.cell (p := ⟨b2, o2 + k, none⟩) hb2 (by simp; exact hb2)).trans cc2
          obtain ⟨cd0, fz0⟩ := hOI.cellAt hlt
          rw [getD_set_self _ _ _ (by rw [HLL1.out]; exact hlt)] at cd0
          clear hOI hKI HO HK H0
          by_cases h8 : q < 8
          · have R1 := Lib.hid fun w => rbit_any x1 q hx1 h8 w
            have R2 := Lib.hid fun w => rbit_any x2 q hx2 h8 w
            have R3 := Lib.hid fun w => rbit_any x3 q hx3 h8 w
            have HABq := Lib.hid (HAB.out q)
            have b1l : x1 / 2 ^ q % 2 < 2 := Nat.mod_lt _ (by decide)
            have b2l : x2 / 2 ^ q % 2 < 2 := Nat.mod_lt _ (by decide)
            have b3l : x3 / 2 ^ q % 2 < 2 := Nat.mod_lt _ (by decide)
            obtain ⟨y1, hy1⟩ : ∃ y, Hid (x1 / 2 ^ q % 2 = y) := ⟨_, rfl⟩
            obtain ⟨y2, hy2⟩ : ∃ y, Hid (x2 / 2 ^ q % 2 = y) := ⟨_, rfl⟩
            obtain ⟨y3, hy3⟩ : ∃ y, Hid (x3 / 2 ^ q % 2 = y) := ⟨_, rfl⟩
            rw [hy1.out] at R1 HABq b1l
            rw [hy2.out] at R2 b2l
            rw [hy3.out] at R3 HABq b3l
            by_cases e1 : y1 = 1
            · subst e1
              by_cases e2 : y2 = 0
              · subst e2
                by_cases e3 : y3 = 1
                · subst e3
                  obtain ⟨ea, eb⟩ := onto_add x2 m q hx2 hm h8 hy2.out (HABq.out.2 ⟨rfl, rfl⟩)
                  have HEA := Lib.hid ea
                  have hol := onto_lt x2 m q hx2 hm
                  obtain ⟨p2, hp2⟩ : ∃ p : Nat, Hid ((2 : Nat) ^ q = p) := ⟨_, rfl⟩
                  rw [hp2.out] at HEA eb
                  have hpp : Hid ((2 : Int) ^ q = (p2 : Int)) := by show (2 : Int) ^ q = _; rw [← hp2.out]; simp
                  have HO2 := Lib.hid (HOI.out.store rfl k ((onto x2 m q + p2 : Nat) : Int) (by omega) (by rw [List.length_set, HLL1.out]; exact hlt))
                  rw [List.set_set, ← HEA.out] at HO2
                  clear ea
                  generalize hyy : onto x2 m (q + 1) = yy at *
                  generalize onto x2 m q = y at *
                  have HYY := Lib.hid hyy
                  clear hyy
                  go_wp2_with fail
                  refine (R1.out _).mono ?_
                  rintro e w4 ⟨rfl, rfl⟩
                  go_wp2_with fail
                  refine (R2.out _).mono ?_
                  rintro e w4 ⟨rfl, rfl⟩
                  go_wp2_with fail
                  refine (RP.out _ HKI.out).mono ?_
                  rintro e w4 ⟨rfl, rfl⟩
                  go_wp2_with fail
                  refine (R3.out _).mono ?_
                  rintro e w4 ⟨rfl, rfl⟩
                  have HV : Hid (((y : Int) + 2 ^ q) % 256 = (yy : Int)) := by show ((y : Int) + 2 ^ q) % 256 = (yy : Int); rw [hpp.out, HEA.out]; omega
                  go_wp2
                  rw [HV.out]
                  go_roundw
                  case rel => exact ⟨q + 1, by omega, by go_num, by rw [HYY.out]; exact HO2.out, HKI.out.setCell _ _ (fun _ => hg1)⟩
                  case measure => simp [intOf]; omega
                · have q3 : ((y3 : Int) == 1) = false := by simp; omega
                  have hn3 : ¬ (x2 / 2 ^ q % 2 = 0 ∧ m / 2 ^ q % 2 = 1) := fun h => e3 (HABq.out.1 h.2).2
                  have HN3 := Lib.hid hn3
                  clear hn3 e3
                  go_wp2_with fail
                  refine (R1.out _).mono ?_
                  rintro e w4 ⟨rfl, rfl⟩
                  go_wp2_with fail
                  refine (R2.out _).mono ?_
                  rintro e w4 ⟨rfl, rfl⟩
                  go_wp2_with fail
                  refine (RP.out _ HKI.out).mono ?_
                  rintro e w4 ⟨rfl, rfl⟩
                  go_wp2_with fail
                  refine (R3.out _).mono ?_
                  rintro e w4 ⟨rfl, rfl⟩
                  -- HN3.out: why the bit is not laid
                  have HSS := Lib.hid (onto_stay x2 m q HN3.out)
                  clear hq
                  go_wp2
                  go_roundw
                  case rel => exact ⟨q + 1, by omega, by go_num, by rw [HSS.out]; exact HOI.out, HKI.out⟩
                  case measure => simp [intOf]; omega
              · have q2 : ((y2 : Int) == 0) = false := by simp; omega
                have hn3 : ¬ (x2 / 2 ^ q % 2 = 0 ∧ m / 2 ^ q % 2 = 1) := fun h => e2 (by rw [← hy2.out]; exact h.1)
                have HN3 := Lib.hid hn3
                clear hn3 e2
                go_wp2_with fail
                refine (R1.out _).mono ?_
                rintro e w4 ⟨rfl, rfl⟩
                go_wp2_with fail
                refine (R2.out _).mono ?_
                rintro e w4 ⟨rfl, rfl⟩
                -- HN3.out: why the bit is not laid
                have HSS := Lib.hid (onto_stay x2 m q HN3.out)
                clear hq
                go_wp2
                go_roundw
                case rel => exact ⟨q + 1, by omega, by go_num, by rw [HSS.out]; exact HOI.out, HKI.out⟩
                case measure => simp [intOf]; omega
            · have q1 : ((y1 : Int) == 1) = false := by simp; omega
              have hn3 : ¬ (x2 / 2 ^ q % 2 = 0 ∧ m / 2 ^ q % 2 = 1) := fun h => e1 (HABq.out.1 h.2).1
              have HN3 := Lib.hid hn3
              clear hn3 e1
              go_wp2_with fail
              refine (R1.out _).mono ?_
              rintro e w4 ⟨rfl, rfl⟩
              -- HN3.out: why the bit is not laid
              have HSS := Lib.hid (onto_stay x2 m q HN3.out)
              clear hq
              go_wp2
              go_roundw
              case rel => exact ⟨q + 1, by omega, by go_num, by rw [HSS.out]; exact HOI.out, HKI.out⟩
              case measure => simp [intOf]; omega
          · obtain rfl : q = 8 := by omega
            clear h8 hq
            have HOF := Lib.hid HOI.out
            rw [HS1.out] at HOF
            go_wp2
            go_roundw
            case rel => exact ⟨k + 1, by omega, by go_num, HOF.out, HKI.out⟩
            case measure => simp [intOf]; omega
      · obtain rfl : k = n1 := by omega
        have HOF := Lib.hid HO.out
        rw [FIN.out] at HOF
        clear HO
        go_wp2
        go_ret
        exact ⟨_, rfl, HOF.out, HK.out.mono (fun i hi h => absurd h (Nat.not_le.2 hi))⟩

set_option maxRecDepth 100000 in
set_option maxHeartbeats 1600000 in
theorem rhalf_any (A1 A3 : Option Addr) (n1 c1 n3 c3 : Nat) (os ps : List Int) (w : World) (h1 : Bs w A1 n1 c1 os) (h3 : Bs w A3 n3 c3 ps) (hn : n1 ≤ 1099511627776) :
    Calls Try.prog 100 #[.slice A1 n1 c1, .slice A3 n3 c3] w (Cloned w (halfN os ps)) := by
  have hl1 := h1.len
  have FIN : Hid (edTo (halfAt os ps) os n1 = halfN os ps) := by
    show edTo (halfAt os ps) os n1 = halfN os ps
    rw [← hl1]; rfl
  have H1 := Lib.hid h1
  have H3 := Lib.hid h3
  have HL1 := Lib.hid hl1
  have hle1 := h1.le
  have hmx1 := h1.max
  have HTA : Hid (∀ i, halfAt os ps i = bits .or .u8 (os.getD i 0) (ps.getD i 0)) := by show ∀ i, _ = _; intro i; rfl
  have HTZ := Lib.hid (edTo_zero (halfAt os ps) os)
  have HTS := Lib.hid (fun k hk => edTo_succ (halfAt os ps) os k hk)
  have HTL := Lib.hid (fun k => edTo_length (halfAt os ps) os k)
  have HTG := Lib.hid (fun k => edTo_getD (halfAt os ps) os k k)
  clear h1 h3 hl1
  generalize halfAt os ps = f at *
  go_enter Try.func100, Try.ntmps100
  go_wp2_with (at_builtin; refine Hid.out ?_)
  refine Lib.hid ?_
  refine wpList_append_bs (Own.nil _ w.heap.size) H1.out (by simp; omega) (Nat.le_refl _) rfl rfl rfl rfl rfl ?_
  intro v3 w3 ho3 hk3
  rw [List.nil_append] at ho3
  obtain ⟨A, cap, rfl, bs3, -⟩ := ho3.shape
  have hle := bs3.le
  have hmx := bs3.max
  rw [HL1.out] at hle ho3 ⊢
  have K3 : Hid (Keeps (fun b => w.heap.size ≤ b) w w3) := hk3.mono (fun i hi e => by simp [Value.ownBlock] at e)
  have O3 : Hid (Own w3 w.heap.size (.slice A n1 cap) os) := ho3
  clear ho3 hk3 bs3
  go_wp2
  go_loopw [6] (fun i wr => ∃ k : Nat, k ≤ n1 ∧ i = .int .i64 k ∧ Own wr w.heap.size (.slice A n1 cap) (edTo f os k) ∧ Keeps (fun b => w.heap.size ≤ b) w wr) (fun i _ => n1 - (intOf i).toNat)
  case atStart => exact ⟨0, Nat.zero_le _, rfl, by rw [HTZ.out]; exact O3.out, K3.out⟩
  case round =>
    obtain ⟨k, hkn, rfl, hO, hK⟩ := hrel
    obtain ⟨wv, rfl⟩ : ∃ x, x = wr := ⟨_, rfl⟩
    have HO := Lib.hid hO
    have HK := Lib.hid hK
    clear hO hK O3 K3
    by_cases hlt : k < n1
    · obtain ⟨g, rfl, hg1, -, -, -, -, -, -⟩ := HO.out.at_ hlt
      obtain ⟨b1, o1, z2, rfl, g2, z2a, z2b, cc1⟩ := H1.out.get hlt
      have hb1 : b1 < w.heap.size := by obtain ⟨b, off, e, hb, _⟩ := H1.out.at_ (by omega); cases e; exact hb
      have z3b := byte_getD H3.out.byte k
      have RP := Lib.hid (fun w' (h : Keeps (fun b => w.heap.size ≤ b) w w') => rpicked_any A3 n3 c3 ps k w' (H3.out.later h) (by omega))
      have HF := Lib.hid (HTA.out k)
      rw [g2] at HF
      generalize ps.getD k 0 = z3 at *
      obtain ⟨x2, rfl⟩ := Int.eq_ofNat_of_zero_le z2a
      obtain ⟨m, rfl⟩ := Int.eq_ofNat_of_zero_le z3b.1
      have hx2 : x2 < 256 := by omega
      have hm : m < 256 := by omega
      have HF2 : Hid (f k = ((onto x2 m 8 : Nat) : Int)) := by
        show f k = _
        rw [HF.out, onto_all _ _ hm, u8_or _ _ (by omega) (by omega) (by omega) (by omega), Int.toNat_natCast, Int.toNat_natCast]
      have HS := HTS.out k (by rw [HL1.out]; exact hlt)
      rw [HF2.out] at HS
      have HLL := HTL.out k
      rw [HL1.out] at HLL
      have HGG := HTG.out k
      rw [if_pos (by rw [HL1.out]; exact hlt), if_neg (Nat.lt_irrefl _), g2] at HGG
      have HS1 := Lib.hid HS
      have HLL1 := Lib.hid HLL
      have H0 : Hid ((edTo f os k).set k ((onto x2 m 0 : Nat) : Int) = edTo f os k) := by
        show (edTo f os k).set k _ = _
        rw [onto_zero, ← HGG]; exact set_getD_self _ _
      clear HS HLL HGG g2 HF HF2
      generalize hl0 : edTo f os k = l0 at *
      clear hl0
      go_wp2
      go_loopw [7] (fun j wr => ∃ q : Nat, q ≤ 8 ∧ j = .int .i64 q ∧ Own wr w.heap.size (.slice (some ⟨g, 0, none⟩) n1 cap) (l0.set k ((onto x2 m q : Nat) : Int)) ∧ Keeps (fun b => w.heap.size ≤ b) w wr) (fun j _ => 8 - (intOf j).toNat)
      case atStart => exact ⟨0, by omega, rfl, by rw [H0.out]; exact HO.out, HK.out⟩
      case round =>
        obtain ⟨q, hq, rfl, hOI, hKI⟩ := hrel
        have HOI := Lib.hid hOI
        have HKI := Lib.hid hKI
        have cd1 := (hKI.cell (p := ⟨b1, o1 + k, none⟩) hb1 (by simp; exact hb1)).trans cc1
        obtain ⟨cd0, fz0⟩ := hOI.cellAt hlt
        rw [getD_set_self _ _ _ (by rw [HLL1.out]; exact hlt)] at cd0
        clear hOI hKI HO HK H0
        by_cases h8 : q < 8
        · have R2 := Lib.hid fun w => rbit_any x2 q hx2 h8 w
          have R3 := Lib.hid fun w => rbit_any m q hm h8 w
          have b2l : x2 / 2 ^ q % 2 < 2 := Nat.mod_lt _ (by decide)
          have b3l : m / 2 ^ q % 2 < 2 := Nat.mod_lt _ (by decide)
          obtain ⟨y2, hy2⟩ : ∃ y, Hid (x2 / 2 ^ q % 2 = y) := ⟨_, rfl⟩
          obtain ⟨y3, hy3⟩ : ∃ y, Hid (m / 2 ^ q % 2 = y) := ⟨_, rfl⟩
          rw [hy2.out] at R2 b2l
          rw [hy3.out] at R3 b3l
          by_cases e2 : y2 = 0
          · subst e2
            by_cases e3 : y3 = 1
            · subst e3
              obtain ⟨ea, eb⟩ := onto_add x2 m q hx2 hm h8 hy2.out (hy3.out)
              have HEA := Lib.hid ea
              have hol := onto_lt x2 m q hx2 hm
              obtain ⟨p2, hp2⟩ : ∃ p : Nat, Hid ((2 : Nat) ^ q = p) := ⟨_, rfl⟩
              rw [hp2.out] at HEA eb
              have hpp : Hid ((2 : Int) ^ q = (p2 : Int)) := by show (2 : Int) ^ q = _; rw [← hp2.out]; simp
              have HO2 := Lib.hid (HOI.out.store rfl k ((onto x2 m q + p2 : Nat) : Int) (by omega) (by rw [List.length_set, HLL1.out]; exact hlt))
              rw [List.set_set, ← HEA.out] at HO2
              clear ea
              generalize hyy : onto x2 m (q + 1) = yy at *
              generalize onto x2 m q = y at *
              have HYY := Lib.hid hyy
              clear hyy
              go_wp2_with fail
              refine (R2.out _).mono ?_
              rintro e w4 ⟨rfl, rfl⟩
              go_wp2_with fail
              refine (RP.out _ HKI.out).mono ?_
              rintro e w4 ⟨rfl, rfl⟩
              go_wp2_with fail
              refine (R3.out _).mono ?_
              rintro e w4 ⟨rfl, rfl⟩
              have HV : Hid (((y : Int) + 2 ^ q) % 256 = (yy : Int)) := by show ((y : Int) + 2 ^ q) % 256 = (yy : Int); rw [hpp.out, HEA.out]; omega
              go_wp2
              rw [HV.out]
              go_roundw
              case rel => exact ⟨q + 1, by omega, by go_num, by rw [HYY.out]; exact HO2.out, HKI.out.setCell _ _ (fun _ => hg1)⟩
              case measure => simp [intOf]; omega
            · have q3 : ((y3 : Int) == 1) = false := by simp; omega
              have hn3 : ¬ (x2 / 2 ^ q % 2 = 0 ∧ m / 2 ^ q % 2 = 1) := fun h => e3 (by rw [← hy3.out]; exact h.2)
              have HN3 := Lib.hid hn3
              clear hn3 e3
              go_wp2_with fail
              refine (R2.out _).mono ?_
              rintro e w4 ⟨rfl, rfl⟩
              go_wp2_with fail
              refine (RP.out _ HKI.out).mono ?_
              rintro e w4 ⟨rfl, rfl⟩
              go_wp2_with fail
              refine (R3.out _).mono ?_
              rintro e w4 ⟨rfl, rfl⟩
              -- HN3.out: why the bit is not laid
              have HSS := Lib.hid (onto_stay x2 m q HN3.out)
              clear hq
              go_wp2
              go_roundw
              case rel => exact ⟨q + 1, by omega, by go_num, by rw [HSS.out]; exact HOI.out, HKI.out⟩
              case measure => simp [intOf]; omega
          · have q2 : ((y2 : Int) == 0) = false := by simp; omega
            have hn3 : ¬ (x2 / 2 ^ q % 2 = 0 ∧ m / 2 ^ q % 2 = 1) := fun h => e2 (by rw [← hy2.out]; exact h.1)
            have HN3 := Lib.hid hn3
            clear hn3 e2
            go_wp2_with fail
            refine (R2.out _).mono ?_
            rintro e w4 ⟨rfl, rfl⟩
            -- HN3.out: why the bit is not laid
            have HSS := Lib.hid (onto_stay x2 m q HN3.out)
            clear hq
            go_wp2
            go_roundw
            case rel => exact ⟨q + 1, by omega, by go_num, by rw [HSS.out]; exact HOI.out, HKI.out⟩
            case measure => simp [intOf]; omega
        · obtain rfl : q = 8 := by omega
          clear h8 hq
          have HOF := Lib.hid HOI.out
          rw [HS1.out] at HOF
          go_wp2
          go_roundw
          case rel => exact ⟨k + 1, by omega, by go_num, HOF.out, HKI.out⟩
          case measure => simp [intOf]; omega
    · obtain rfl : k = n1 := by omega
      have HOF := Lib.hid HO.out
      rw [FIN.out] at HOF
      clear HO
      go_wp2
      go_ret
      exact ⟨_, rfl, HOF.out, HK.out.mono (fun i hi h => absurd h (Nat.not_le.2 hi))⟩

end Go.Proofs.Ytngofnlhbhfigaa
