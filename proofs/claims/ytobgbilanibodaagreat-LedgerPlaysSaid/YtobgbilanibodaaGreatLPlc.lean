
/- Texts put together: NorRef2, FlMem, FlWrite, FlProg, FlErase, FlLaw, Rg, Rg2, RgLaw. -/
import Derived.Test.YtobgbilanibodaaGreatLPlb
import Derived.Laws.ResultCell
import Derived.Deep.WholeRow
namespace Go.Proofs.YtobgbilanibodaaGreat
open Go.RowKit
theorem getD_set_self (l : List Int) (k : Nat) (v : Int) (h : k < l.length) : (l.set k v).getD k 0 = v := by simp [List.getD, h]
theorem Own.cellAt {w : World} {B : Nat} {g n cap : Nat} {zs : List Int} (h : Own w B (.slice (some ⟨g, 0, none⟩) n cap) zs) {k : Nat} (hk : k < n) :
    w.cell? ⟨g, k, none⟩ = some (.int .u8 (zs.getD k 0)) ∧ w.frozen? ⟨g, k, none⟩ = false := by
 obtain ⟨g', e, _, _, _, _, _, h1, h2⟩ := h.at_ hk
 cases e
 exact ⟨h1, h2⟩
theorem tl64 (P : Prop) (h : P := by
 go_wp2_with fail
 refine (R2.out _).mono ?_
 rintro e w4 ⟨rfl, rfl⟩
 go_wp2_with fail
 refine (RP.out _ HKI.out).mono ?_
 rintro e w4 ⟨rfl, rfl⟩
 go_wp2_with fail
 refine (R3.out _).mono ?_
 rintro e w4 ⟨rfl, rfl⟩
 have HV : Hid (((y : Int) + 2 ^ q) % 256 = (yy : Int)) := by show ((y : Int) + 2 ^ q) % 256 = (yy : Int); rw [hpp.out, HEA.out]; omega
 go_wp2
 rw [HV.out]
 go_roundw
 case rel => exact ⟨q + 1, by omega, by go_num, by rw [HYY.out]; exact HO2.out, HKI.out.setCell _ _ (fun _ => hg1)⟩
 case measure => simp [intOf]; omega) : P := h
theorem tl66 (P : Prop) (h : P := by
 rintro e w4 ⟨rfl, rfl⟩
 have HSS := Lib.hid (onto_stay x2 m q HN3.out)
 clear hq
 go_wp2
 go_roundw
 case rel => exact ⟨q + 1, by omega, by go_num, by rw [HSS.out]; exact HOI.out, HKI.out⟩
 case measure => simp [intOf]; omega) : P := h
theorem tl65 (P : Prop) (h : P := by
 go_wp2_with fail
 refine (R2.out _).mono ?_
 rintro e w4 ⟨rfl, rfl⟩
 go_wp2_with fail
 refine (RP.out _ HKI.out).mono ?_
 rintro e w4 ⟨rfl, rfl⟩
 go_wp2_with fail
 refine (R3.out _).mono ?_
 exact tl66 _) : P := h
theorem tl67 (P : Prop) (h : P := by
 go_wp2_with fail
 refine (R2.out _).mono ?_
 exact tl66 _) : P := h
theorem tl68 (P : Prop) (h : P := by
 obtain rfl : q = 8 := by omega
 clear h8 hq
 have HOF := Lib.hid HOI.out
 rw [HS1.out] at HOF
 go_wp2
 go_roundw
 case rel => exact ⟨k + 1, by omega, by go_num, HOF.out, HKI.out⟩
 case measure => simp [intOf]; omega) : P := h
theorem tl69 (P : Prop) (h : P := by
 obtain rfl : k = n1 := by omega
 have HOF := Lib.hid HO.out
 rw [FIN.out] at HOF
 clear HO
 go_wp2
 go_ret
 exact ⟨_, rfl, HOF.out, HK.out.mono (fun i hi h => absurd h (Nat.not_le.2 hi))⟩) : P := h
set_option maxRecDepth 100000 in
set_option maxHeartbeats 1600000 in
theorem rtorn_any (A1 A2 A3 : Option Addr) (n1 c1 n2 c2 n3 c3 : Nat) (os ns ps : List Int) (w : World) (h1 : Bs w A1 n1 c1 os) (h2 : Bs w A2 n2 c2 ns) (h3 : Bs w A3 n3 c3 ps) (hn : n2 ≤ 140737488355328) :
    Calls Tryz.prog 125 #[.slice A1 n1 c1, .slice A2 n2 c2, .slice A3 n3 c3] w (Cloned w (tornN os ns ps)) := by
 have HC := Lib.hid (rcan_any A1 A2 n1 c1 n2 c2 os ns w h1 h2)
 cases hc : canN os ns with
 | false =>
  rw [hc] at HC
  have FIN : Hid (tornN os ns ps = []) := by show tornN os ns ps = []; simp [tornN, hc]
  clear hc h1 h2 h3
  go_enter Tryz.func125, Tryz.ntmps125
  exact tl53 _
 | true =>
  rw [hc] at HC
  have hlen : os.length = ns.length := by simp only [canN, decide_eq_true_eq] at hc; exact hc.1
  have hl1 := h1.len
  have hl2 := h2.len
  obtain rfl : n1 = n2 := by omega
  have FIN : Hid (edTo (tornAt os ns ps) ns n1 = tornN os ns ps) := by
   show edTo (tornAt os ns ps) ns n1 = tornN os ns ps
   rw [tornN, if_pos hc, ← hl2]; rfl
  have H1 := Lib.hid h1
  have H2 := Lib.hid h2
  have H3 := Lib.hid h3
  have HL2 := Lib.hid hl2
  have hle1 := h1.le
  have hmx1 := h1.max
  have hle2 := h2.le
  have hmx2 := h2.max
  have HTA : Hid (∀ i, tornAt os ns ps i = bits .or .u8 (ns.getD i 0) (bits .and .u8 (os.getD i 0) (ps.getD i 0))) := by show ∀ i, _ = _; intro i; rfl
  have HTZ := Lib.hid (edTo_zero (tornAt os ns ps) ns)
  have HTS := Lib.hid (fun k hk => edTo_succ (tornAt os ns ps) ns k hk)
  have HTL := Lib.hid (fun k => edTo_length (tornAt os ns ps) ns k)
  have HTG := Lib.hid (fun k => edTo_getD (tornAt os ns ps) ns k k)
  clear hc h1 h2 h3 hlen hl1 hl2
  generalize tornAt os ns ps = f at *
  go_enter Tryz.func125, Tryz.ntmps125
  go_wp2_with fail
  refine HC.out.mono ?_
  rintro e w1 ⟨rfl, m0, rfl⟩
  go_wp2_with (at_builtin; refine Hid.out ?_)
  refine Lib.hid ?_
  refine wpList_append_bs (Own.nil _ (w.drewN m0).heap.size) (H2.out.drewN m0) (by simp; omega) (Nat.le_refl _) rfl rfl rfl rfl rfl ?_
  intro v3 w3 ho3 hk3
  rw [List.nil_append] at ho3
  obtain ⟨A, cap, rfl, bs3, -⟩ := ho3.shape
  have hle := bs3.le
  have hmx := bs3.max
  rw [HL2.out] at hle ho3 ⊢
  have K3 : Hid (Keeps (fun b => w.heap.size ≤ b) w w3) := ((Keeps.refl None w).drewN m0).trans hk3 (fun _ h => h.elim) (fun i hi e => by simp [Value.ownBlock] at e)
  have O3 : Hid (Own w3 w.heap.size (.slice A n1 cap) ns) := ho3
  clear ho3 hk3 bs3 HC
  go_wp2
  go_loopw [8] (fun i wr => ∃ k : Nat, k ≤ n1 ∧ i = .int .i64 k ∧ Own wr w.heap.size (.slice A n1 cap) (edTo f ns k) ∧ Keeps (fun b => w.heap.size ≤ b) w wr) (fun i _ => n1 - (intOf i).toNat)
  case atStart => exact ⟨0, Nat.zero_le _, rfl, by rw [HTZ.out]; exact O3.out, K3.out⟩
  case round =>
   obtain ⟨k, hkn, rfl, hO, hK⟩ := hrel
   obtain ⟨wv, rfl⟩ : ∃ x, x = wr := ⟨_, rfl⟩
   have HO := Lib.hid hO
   have HK := Lib.hid hK
   clear hO hK O3 K3
   by_cases hlt : k < n1
   ·obtain ⟨g, rfl, hg1, -, -, -, -, -, -⟩ := HO.out.at_ hlt
    obtain ⟨b1, o1, z1, rfl, g1, z1a, z1b, cc1⟩ := H1.out.get hlt
    obtain ⟨b2, o2, z2, rfl, g2, z2a, z2b, cc2⟩ := H2.out.get hlt
    have hb1 : b1 < w.heap.size := by obtain ⟨b, off, e, hb, _⟩ := H1.out.at_ (by omega); cases e; exact hb
    have hb2 : b2 < w.heap.size := by obtain ⟨b, off, e, hb, _⟩ := H2.out.at_ (by omega); cases e; exact hb
    have z3b := byte_getD H3.out.byte k
    have RP := Lib.hid (fun w' (h : Keeps (fun b => w.heap.size ≤ b) w w') => rpicked_any A3 n3 c3 ps k w' (H3.out.later h) (by omega))
    have HF := Lib.hid (HTA.out k)
    rw [g1, g2] at HF
    generalize ps.getD k 0 = z3 at *
    obtain ⟨x1, rfl⟩ := Int.eq_ofNat_of_zero_le z1a
    obtain ⟨x2, rfl⟩ := Int.eq_ofNat_of_zero_le z2a
    obtain ⟨x3, rfl⟩ := Int.eq_ofNat_of_zero_le z3b.1
    have hx1 : x1 < 256 := by omega
    have hx2 : x2 < 256 := by omega
    have hx3 : x3 < 256 := by omega
    have hm : x1 &&& x3 < 256 := Nat.lt_of_le_of_lt Nat.and_le_left hx1
    have HF2 : Hid (f k = ((onto x2 (x1 &&& x3) 8 : Nat) : Int)) := by
     show f k = _
     rw [HF.out, onto_all _ _ hm, u8_and _ _ (by omega) (by omega) (by omega) (by omega), Int.toNat_natCast, Int.toNat_natCast, u8_or _ _ (by omega) (by omega) (by omega) (by omega), Int.toNat_natCast, Int.toNat_natCast]
    have HAB := Lib.hid (fun q => and_bit x1 x3 q)
    have HS := HTS.out k (by rw [HL2.out]; exact hlt)
    rw [HF2.out] at HS
    have HLL := HTL.out k
    rw [HL2.out] at HLL
    have HGG := HTG.out k
    rw [if_pos (by rw [HL2.out]; exact hlt), if_neg (Nat.lt_irrefl _), g2] at HGG
    have HS1 := Lib.hid HS
    have HLL1 := Lib.hid HLL
    have H0 : Hid ((edTo f ns k).set k ((onto x2 (x1 &&& x3) 0 : Nat) : Int) = edTo f ns k) := by
     show (edTo f ns k).set k _ = _
     rw [onto_zero, ← HGG]; exact set_getD_self _ _
    clear HS HLL HGG g1 g2 HF HF2
    generalize hl0 : edTo f ns k = l0 at *
    generalize x1 &&& x3 = m at *
    clear hl0
    go_wp2
    go_loopw [9] (fun j wr => ∃ q : Nat, q ≤ 8 ∧ j = .int .i64 q ∧ Own wr w.heap.size (.slice (some ⟨g, 0, none⟩) n1 cap) (l0.set k ((onto x2 m q : Nat) : Int)) ∧ Keeps (fun b => w.heap.size ≤ b) w wr) (fun j _ => 8 - (intOf j).toNat)
    case atStart => exact ⟨0, by omega, rfl, by rw [H0.out]; exact HO.out, HK.out⟩
    case round =>
     obtain ⟨q, hq, rfl, hOI, hKI⟩ := hrel
     have HOI := Lib.hid hOI
     have HKI := Lib.hid hKI
     have cd1 := (hKI.cell (p := ⟨b1, o1 + k, none⟩) hb1 (by simp; exact hb1)).trans cc1
     have cd2 := (hKI.cell (p := ⟨b2, o2 + k, none⟩) hb2 (by simp; exact hb2)).trans cc2
     obtain ⟨cd0, fz0⟩ := hOI.cellAt hlt
     rw [getD_set_self _ _ _ (by rw [HLL1.out]; exact hlt)] at cd0
     clear hOI hKI HO HK H0
     by_cases h8 : q < 8
     ·have R1 := Lib.hid fun w => rbit_any x1 q hx1 h8 w
      have R2 := Lib.hid fun w => rbit_any x2 q hx2 h8 w
      have R3 := Lib.hid fun w => rbit_any x3 q hx3 h8 w
      have HABq := Lib.hid (HAB.out q)
      have b1l : x1 / 2 ^ q % 2 < 2 := Nat.mod_lt _ (by decide)
      have b2l : x2 / 2 ^ q % 2 < 2 := Nat.mod_lt _ (by decide)
      have b3l : x3 / 2 ^ q % 2 < 2 := Nat.mod_lt _ (by decide)
      obtain ⟨y1, hy1⟩ : ∃ y, Hid (x1 / 2 ^ q % 2 = y) := ⟨_, rfl⟩
      obtain ⟨y2, hy2⟩ : ∃ y, Hid (x2 / 2 ^ q % 2 = y) := ⟨_, rfl⟩
      obtain ⟨y3, hy3⟩ : ∃ y, Hid (x3 / 2 ^ q % 2 = y) := ⟨_, rfl⟩
      rw [hy1.out] at R1 HABq b1l
      rw [hy2.out] at R2 b2l
      rw [hy3.out] at R3 HABq b3l
      by_cases e1 : y1 = 1
      ·subst e1
       by_cases e2 : y2 = 0
       ·subst e2
        by_cases e3 : y3 = 1
        ·subst e3
         obtain ⟨ea, eb⟩ := onto_add x2 m q hx2 hm h8 hy2.out (HABq.out.2 ⟨rfl, rfl⟩)
         have HEA := Lib.hid ea
         have hol := onto_lt x2 m q hx2 hm
         obtain ⟨p2, hp2⟩ : ∃ p : Nat, Hid ((2 : Nat) ^ q = p) := ⟨_, rfl⟩
         rw [hp2.out] at HEA eb
         have hpp : Hid ((2 : Int) ^ q = (p2 : Int)) := by show (2 : Int) ^ q = _; rw [← hp2.out]; simp
         have HO2 := Lib.hid (HOI.out.store rfl k ((onto x2 m q + p2 : Nat) : Int) (by omega) (by rw [List.length_set, HLL1.out]; exact hlt))
         rw [List.set_set, ← HEA.out] at HO2
         clear ea
         generalize hyy : onto x2 m (q + 1) = yy at *
         generalize onto x2 m q = y at *
         have HYY := Lib.hid hyy
         clear hyy
         go_wp2_with fail
         refine (R1.out _).mono ?_
         rintro e w4 ⟨rfl, rfl⟩
         exact tl64 _
        ·have q3 : ((y3 : Int) == 1) = false := by simp; omega
         have hn3 : ¬ (x2 / 2 ^ q % 2 = 0 ∧ m / 2 ^ q % 2 = 1) := fun h => e3 (HABq.out.1 h.2).2
         have HN3 := Lib.hid hn3
         clear hn3 e3
         go_wp2_with fail
         refine (R1.out _).mono ?_
         rintro e w4 ⟨rfl, rfl⟩
         exact tl65 _
       ·have q2 : ((y2 : Int) == 0) = false := by simp; omega
        have hn3 : ¬ (x2 / 2 ^ q % 2 = 0 ∧ m / 2 ^ q % 2 = 1) := fun h => e2 (by rw [← hy2.out]; exact h.1)
        have HN3 := Lib.hid hn3
        clear hn3 e2
        go_wp2_with fail
        refine (R1.out _).mono ?_
        rintro e w4 ⟨rfl, rfl⟩
        exact tl67 _
      ·have q1 : ((y1 : Int) == 1) = false := by simp; omega
       have hn3 : ¬ (x2 / 2 ^ q % 2 = 0 ∧ m / 2 ^ q % 2 = 1) := fun h => e1 (HABq.out.1 h.2).1
       have HN3 := Lib.hid hn3
       clear hn3 e1
       go_wp2_with fail
       refine (R1.out _).mono ?_
       exact tl66 _
     ·exact tl68 _
   ·exact tl69 _
set_option maxRecDepth 100000 in
set_option maxHeartbeats 1600000 in
theorem rhalf_any (A1 A3 : Option Addr) (n1 c1 n3 c3 : Nat) (os ps : List Int) (w : World) (h1 : Bs w A1 n1 c1 os) (h3 : Bs w A3 n3 c3 ps) (hn : n1 ≤ 140737488355328) :
    Calls Tryz.prog 134 #[.slice A1 n1 c1, .slice A3 n3 c3] w (Cloned w (halfN os ps)) := by
 have hl1 := h1.len
 have FIN : Hid (edTo (halfAt os ps) os n1 = halfN os ps) := by
  show edTo (halfAt os ps) os n1 = halfN os ps
  rw [← hl1]; rfl
 have H1 := Lib.hid h1
 have H3 := Lib.hid h3
 have HL1 := Lib.hid hl1
 have hle1 := h1.le
 have hmx1 := h1.max
 have HTA : Hid (∀ i, halfAt os ps i = bits .or .u8 (os.getD i 0) (ps.getD i 0)) := by show ∀ i, _ = _; intro i; rfl
 have HTZ := Lib.hid (edTo_zero (halfAt os ps) os)
 have HTS := Lib.hid (fun k hk => edTo_succ (halfAt os ps) os k hk)
 have HTL := Lib.hid (fun k => edTo_length (halfAt os ps) os k)
 have HTG := Lib.hid (fun k => edTo_getD (halfAt os ps) os k k)
 clear h1 h3 hl1
 generalize halfAt os ps = f at *
 go_enter Tryz.func134, Tryz.ntmps134
 go_wp2_with (at_builtin; refine Hid.out ?_)
 refine Lib.hid ?_
 refine wpList_append_bs (Own.nil _ w.heap.size) H1.out (by simp; omega) (Nat.le_refl _) rfl rfl rfl rfl rfl ?_
 intro v3 w3 ho3 hk3
 rw [List.nil_append] at ho3
 obtain ⟨A, cap, rfl, bs3, -⟩ := ho3.shape
 have hle := bs3.le
 have hmx := bs3.max
 rw [HL1.out] at hle ho3 ⊢
 have K3 : Hid (Keeps (fun b => w.heap.size ≤ b) w w3) := hk3.mono (fun i hi e => by simp [Value.ownBlock] at e)
 have O3 : Hid (Own w3 w.heap.size (.slice A n1 cap) os) := ho3
 clear ho3 hk3 bs3
 go_wp2
 go_loopw [6] (fun i wr => ∃ k : Nat, k ≤ n1 ∧ i = .int .i64 k ∧ Own wr w.heap.size (.slice A n1 cap) (edTo f os k) ∧ Keeps (fun b => w.heap.size ≤ b) w wr) (fun i _ => n1 - (intOf i).toNat)
 case atStart => exact ⟨0, Nat.zero_le _, rfl, by rw [HTZ.out]; exact O3.out, K3.out⟩
 case round =>
  obtain ⟨k, hkn, rfl, hO, hK⟩ := hrel
  obtain ⟨wv, rfl⟩ : ∃ x, x = wr := ⟨_, rfl⟩
  have HO := Lib.hid hO
  have HK := Lib.hid hK
  clear hO hK O3 K3
  by_cases hlt : k < n1
  ·obtain ⟨g, rfl, hg1, -, -, -, -, -, -⟩ := HO.out.at_ hlt
   obtain ⟨b1, o1, z2, rfl, g2, z2a, z2b, cc1⟩ := H1.out.get hlt
   have hb1 : b1 < w.heap.size := by obtain ⟨b, off, e, hb, _⟩ := H1.out.at_ (by omega); cases e; exact hb
   have z3b := byte_getD H3.out.byte k
   have RP := Lib.hid (fun w' (h : Keeps (fun b => w.heap.size ≤ b) w w') => rpicked_any A3 n3 c3 ps k w' (H3.out.later h) (by omega))
   have HF := Lib.hid (HTA.out k)
   rw [g2] at HF
   generalize ps.getD k 0 = z3 at *
   obtain ⟨x2, rfl⟩ := Int.eq_ofNat_of_zero_le z2a
   obtain ⟨m, rfl⟩ := Int.eq_ofNat_of_zero_le z3b.1
   have hx2 : x2 < 256 := by omega
   have hm : m < 256 := by omega
   have HF2 : Hid (f k = ((onto x2 m 8 : Nat) : Int)) := by
    show f k = _
    rw [HF.out, onto_all _ _ hm, u8_or _ _ (by omega) (by omega) (by omega) (by omega), Int.toNat_natCast, Int.toNat_natCast]
   have HS := HTS.out k (by rw [HL1.out]; exact hlt)
   rw [HF2.out] at HS
   have HLL := HTL.out k
   rw [HL1.out] at HLL
   have HGG := HTG.out k
   rw [if_pos (by rw [HL1.out]; exact hlt), if_neg (Nat.lt_irrefl _), g2] at HGG
   have HS1 := Lib.hid HS
   have HLL1 := Lib.hid HLL
   have H0 : Hid ((edTo f os k).set k ((onto x2 m 0 : Nat) : Int) = edTo f os k) := by
    show (edTo f os k).set k _ = _
    rw [onto_zero, ← HGG]; exact set_getD_self _ _
   clear HS HLL HGG g2 HF HF2
   generalize hl0 : edTo f os k = l0 at *
   clear hl0
   go_wp2
   go_loopw [7] (fun j wr => ∃ q : Nat, q ≤ 8 ∧ j = .int .i64 q ∧ Own wr w.heap.size (.slice (some ⟨g, 0, none⟩) n1 cap) (l0.set k ((onto x2 m q : Nat) : Int)) ∧ Keeps (fun b => w.heap.size ≤ b) w wr) (fun j _ => 8 - (intOf j).toNat)
   case atStart => exact ⟨0, by omega, rfl, by rw [H0.out]; exact HO.out, HK.out⟩
   case round =>
    obtain ⟨q, hq, rfl, hOI, hKI⟩ := hrel
    have HOI := Lib.hid hOI
    have HKI := Lib.hid hKI
    have cd1 := (hKI.cell (p := ⟨b1, o1 + k, none⟩) hb1 (by simp; exact hb1)).trans cc1
    obtain ⟨cd0, fz0⟩ := hOI.cellAt hlt
    rw [getD_set_self _ _ _ (by rw [HLL1.out]; exact hlt)] at cd0
    clear hOI hKI HO HK H0
    by_cases h8 : q < 8
    ·have R2 := Lib.hid fun w => rbit_any x2 q hx2 h8 w
     have R3 := Lib.hid fun w => rbit_any m q hm h8 w
     have b2l : x2 / 2 ^ q % 2 < 2 := Nat.mod_lt _ (by decide)
     have b3l : m / 2 ^ q % 2 < 2 := Nat.mod_lt _ (by decide)
     obtain ⟨y2, hy2⟩ : ∃ y, Hid (x2 / 2 ^ q % 2 = y) := ⟨_, rfl⟩
     obtain ⟨y3, hy3⟩ : ∃ y, Hid (m / 2 ^ q % 2 = y) := ⟨_, rfl⟩
     rw [hy2.out] at R2 b2l
     rw [hy3.out] at R3 b3l
     by_cases e2 : y2 = 0
     ·subst e2
      by_cases e3 : y3 = 1
      ·subst e3
       obtain ⟨ea, eb⟩ := onto_add x2 m q hx2 hm h8 hy2.out (hy3.out)
       have HEA := Lib.hid ea
       have hol := onto_lt x2 m q hx2 hm
       obtain ⟨p2, hp2⟩ : ∃ p : Nat, Hid ((2 : Nat) ^ q = p) := ⟨_, rfl⟩
       rw [hp2.out] at HEA eb
       have hpp : Hid ((2 : Int) ^ q = (p2 : Int)) := by show (2 : Int) ^ q = _; rw [← hp2.out]; simp
       have HO2 := Lib.hid (HOI.out.store rfl k ((onto x2 m q + p2 : Nat) : Int) (by omega) (by rw [List.length_set, HLL1.out]; exact hlt))
       rw [List.set_set, ← HEA.out] at HO2
       clear ea
       generalize hyy : onto x2 m (q + 1) = yy at *
       generalize onto x2 m q = y at *
       have HYY := Lib.hid hyy
       clear hyy
       exact tl64 _
      ·have q3 : ((y3 : Int) == 1) = false := by simp; omega
       have hn3 : ¬ (x2 / 2 ^ q % 2 = 0 ∧ m / 2 ^ q % 2 = 1) := fun h => e3 (by rw [← hy3.out]; exact h.2)
       have HN3 := Lib.hid hn3
       clear hn3 e3
       exact tl65 _
     ·have q2 : ((y2 : Int) == 0) = false := by simp; omega
      have hn3 : ¬ (x2 / 2 ^ q % 2 = 0 ∧ m / 2 ^ q % 2 = 1) := fun h => e2 (by rw [← hy2.out]; exact h.1)
      have HN3 := Lib.hid hn3
      clear hn3 e2
      exact tl67 _
    ·exact tl68 _
  ·exact tl69 _
open Go.RowKit
structure FL where
  bf : Nat
  gb : Nat
  ge : Nat
  N : Nat
  capb : Nat
  n : Nat
  af : Int
  pA : Option Addr
  pc : Nat
  pk : List Int
def FL.S (L : FL) (k : Nat) : Prop := k = L.bf ∨ k = L.gb ∨ k = L.ge
def FL.pv (L : FL) : Value := .slice L.pA L.pk.length L.pc
def FL.O (L : FL) (k : Nat) : Prop := L.S k ∨ L.pv.ownBlock = some k
def FL.p (L : FL) : Value := .pointer (some ⟨L.bf, 0, none⟩)
structure FAt (w : World) (B : Nat) (L : FL) (s : FS) : Prop where
  f : Blk w L.bf [.slice (some ⟨L.gb, 0, none⟩) L.N L.capb, .slice (some ⟨L.ge, 0, none⟩) L.n L.n, .int .i64 s.steps, .bool s.dark, .bool (decide (0 ≤ s.left)), .int .i64 L.af, .slice L.pA L.pk.length L.pc] 70
  b : Own w B (.slice (some ⟨L.gb, 0, none⟩) L.N L.capb) s.b
  e : Blk w L.ge (s.er.map (.int .i64)) 3
  p : Own w B L.pv L.pk
  el : s.er.length = L.n
  armed : 0 ≤ s.left → L.af = s.left ∧ L.pk = s.pick
  lm : -1 ≤ s.left
  lx : s.left ≤ 9223372036854775807
  nN : L.N = 1024 * L.n
  n0 : 1 ≤ L.n
  n9 : L.n ≤ 256
  bB : B ≤ L.bf
  eB : B ≤ L.ge
  d1 : L.bf ≠ L.gb
  d2 : L.bf ≠ L.ge
  d3 : L.gb ≠ L.ge
  pn : ∀ g, L.pv.ownBlock = some g → ¬ L.S g
theorem FAt.keeps {w w' : World} {B : Nat} {L : FL} {s : FS} {S : Nat → Prop} (h : FAt w B L s) (hk : Keeps S w w') (hS : ∀ k, L.O k → ¬ S k) : FAt w' B L s :=
  ⟨hk.blk h.f (hS _ (.inl (.inl rfl))), h.b.keeps hk (fun b e => by cases e; exact hS _ (.inl (.inr (.inl rfl)))), hk.blk h.e (hS _ (.inl (.inr (.inr rfl)))), h.p.keeps hk (fun b e => hS _ (.inr e)),
    h.el, h.armed, h.lm, h.lx, h.nN, h.n0, h.n9, h.bB, h.eB, h.d1, h.d2, h.d3, h.pn⟩
theorem FAt.later {w w' : World} {B : Nat} {L : FL} {s : FS} (h : FAt w B L s) (hk : Keeps None w w') : FAt w' B L s := h.keeps hk (fun _ _ h => h)
theorem FAt.drew {w : World} {B : Nat} {L : FL} {s : FS} (h : FAt w B L s) : FAt w.drew B L s := h.later (Keeps.refl None w).drew
theorem FAt.alloc {w : World} {B : Nat} {L : FL} {s : FS} (h : FAt w B L s) (o : Obj) : FAt (w.alloc o) B L s := h.later ((Keeps.refl None w).alloc o)
theorem FAt.bs {w : World} {B : Nat} {L : FL} {s : FS} (h : FAt w B L s) : Bs w (some ⟨L.gb, 0, none⟩) L.N L.capb s.b := ownBs h.b
theorem FAt.bl {w : World} {B : Nat} {L : FL} {s : FS} (h : FAt w B L s) : s.b.length = L.N := h.bs.len
theorem FAt.lt {w : World} {B : Nat} {L : FL} {s : FS} (h : FAt w B L s) : ∀ k, L.O k → k < w.heap.size := by
 intro k hk
 rcases hk with (rfl | rfl | rfl) | hp
 ·exact h.f.lt
 ·obtain ⟨cur, hb, _⟩ := h.b.row; exact hb.lt
 ·exact h.e.lt
 ·obtain ⟨A, cap, e, _, h3⟩ := h.p.shape
  rw [e] at hp
  cases A with
  | none => cases hp
  | some ad =>
   have hp' : ad.block = k := by simpa [Value.ownBlock] using hp
   rcases h.p.1.2 with ⟨e0, _⟩ | ⟨g, cap', cur, e1, hb, hg, _⟩
   ·rw [e] at e0; cases e0
   ·rw [e] at e1; cases e1
    obtain rfl : g = k := hp'
    exact (Array.getElem?_eq_some_iff.1 hg).1
theorem tl70 (P : Prop) (h : P := by
 intro k hk
 rcases hk with (rfl | rfl | rfl) | hp
 ·exact h.bB
 ·obtain ⟨cur, hb, _, _, _, _, _, h7⟩ := h.b.row; exact h7
 ·exact h.eB
 ·exact Nat.le_of_not_lt fun hlt => h.p.notBelow hlt hp) : P := h
theorem FAt.low {w : World} {B : Nat} {L : FL} {s : FS} (h : FAt w B L s) : ∀ k, L.O k → B ≤ k := by
 exact tl70 _
set_option maxRecDepth 100000 in
theorem fwithin_any (B : Nat) (L : FL) (s : FS) (a m : Int) (w : World) (h : FAt w B L s) : Calls Tryz.prog 42 #[L.p, .int .i64 a, .int .i64 m] w (Same (.bool (withinB a m L.N)) w) := by
 obtain ⟨bf, gb, ge, N, capb, n, af, pA, pc, pk⟩ := L
 have c0 := h.f.cellD 0 _ rfl
 have c1 := h.f.cellD 1 _ rfl
 have c2 := h.f.cellD 2 _ rfl
 have c3 := h.f.cellD 3 _ rfl
 have c4 := h.f.cellD 4 _ rfl
 have c5 := h.f.cellD 5 _ rfl
 have c6 := h.f.cellD 6 _ rfl
 have hcap := h.bs.le
 have hcmx := h.bs.max
 have hN := h.nN
 have hn0 := h.n0
 have hn9 := h.n9
 have H := Lib.hid h
 simp only [] at c0 c1 c2 c3 c4 c5 c6 hcap hcmx hN hn0 hn9
 have hNb : N ≤ 262144 := by omega
 have hN1 : 1024 ≤ N := by omega
 have HN := Lib.hid hN
 clear h hN
 simp only [FL.p, FL.pv]
 have WI : Hid (withinB a m N = (decide (0 ≤ a) && decide (0 ≤ m) && decide (a ≤ N) && decide (m ≤ N - a))) := by
  show withinB a m N = _
  unfold withinB
  by_cases q1 : 0 ≤ a <;> by_cases q2 : 0 ≤ m <;> by_cases q3 : a ≤ N <;> by_cases q4 : m ≤ N - a <;> simp [q1, q2, q3, q4]
 by_cases q1 : 0 ≤ a
 ·have e1 : decide (0 ≤ a) = true := decide_eq_true q1
  by_cases q2 : 0 ≤ m
  ·have e2 : decide (0 ≤ m) = true := decide_eq_true q2
   by_cases q3 : a ≤ N
   ·have e3 : decide (a ≤ N) = true := decide_eq_true q3
    rw [e1, e2, e3] at WI
    go_enter Tryz.func42, Tryz.ntmps42
    go_wp2
    go_ret
    exact ⟨ret_bool (by rw [WI.out]; simp), rfl⟩
   ·have e3 : decide (a ≤ N) = false := decide_eq_false q3
    rw [e1, e2, e3] at WI
    go_enter Tryz.func42, Tryz.ntmps42
    go_wp2
    go_ret
    exact ⟨ret_bool (by rw [WI.out]; simp), rfl⟩
  ·have e2 : decide (0 ≤ m) = false := decide_eq_false q2
   rw [e1, e2] at WI
   go_enter Tryz.func42, Tryz.ntmps42
   go_wp2
   go_ret
   exact ⟨ret_bool (by rw [WI.out]; simp), rfl⟩
 ·have e1 : decide (0 ≤ a) = false := decide_eq_false q1
  rw [e1] at WI
  go_enter Tryz.func42, Tryz.ntmps42
  go_wp2
  go_ret
  exact ⟨ret_bool (by rw [WI.out]; simp), rfl⟩
set_option maxRecDepth 100000 in
theorem fsize_any (B : Nat) (L : FL) (s : FS) (w : World) (h : FAt w B L s) : Calls Tryz.prog 53 #[L.p] w (Same (.int .i64 L.N) w) := by
 obtain ⟨bf, gb, ge, N, capb, n, af, pA, pc, pk⟩ := L
 have c0 := h.f.cellD 0 _ rfl
 have c1 := h.f.cellD 1 _ rfl
 have c2 := h.f.cellD 2 _ rfl
 have c3 := h.f.cellD 3 _ rfl
 have c4 := h.f.cellD 4 _ rfl
 have c5 := h.f.cellD 5 _ rfl
 have c6 := h.f.cellD 6 _ rfl
 have hcap := h.bs.le
 have hcmx := h.bs.max
 have hN := h.nN
 have hn0 := h.n0
 have hn9 := h.n9
 have H := Lib.hid h
 simp only [] at c0 c1 c2 c3 c4 c5 c6 hcap hcmx hN hn0 hn9
 have hNb : N ≤ 262144 := by omega
 have hN1 : 1024 ≤ N := by omega
 have HN := Lib.hid hN
 clear h hN
 simp only [FL.p, FL.pv]
 go_enter Tryz.func53, Tryz.ntmps53
 go_wp2
 go_ret
 exact ⟨rfl, rfl⟩
theorem fsteps_any (B : Nat) (L : FL) (s : FS) (w : World) (h : FAt w B L s) : Calls Tryz.prog 23 #[L.p] w (Same (.int .i64 s.steps) w) := by
 obtain ⟨bf, gb, ge, N, capb, n, af, pA, pc, pk⟩ := L
 have c0 := h.f.cellD 0 _ rfl
 have c1 := h.f.cellD 1 _ rfl
 have c2 := h.f.cellD 2 _ rfl
 have c3 := h.f.cellD 3 _ rfl
 have c4 := h.f.cellD 4 _ rfl
 have c5 := h.f.cellD 5 _ rfl
 have c6 := h.f.cellD 6 _ rfl
 have hcap := h.bs.le
 have hcmx := h.bs.max
 have hN := h.nN
 have hn0 := h.n0
 have hn9 := h.n9
 have H := Lib.hid h
 simp only [] at c0 c1 c2 c3 c4 c5 c6 hcap hcmx hN hn0 hn9
 have hNb : N ≤ 262144 := by omega
 have hN1 : 1024 ≤ N := by omega
 have HN := Lib.hid hN
 clear h hN
 simp only [FL.p, FL.pv]
 go_enter Tryz.func23, Tryz.ntmps23
 go_wp2
 go_ret
 exact ⟨rfl, rfl⟩
theorem foff_any (B : Nat) (L : FL) (s : FS) (w : World) (h : FAt w B L s) : Calls Tryz.prog 111 #[L.p] w (Same (.bool s.dark) w) := by
 obtain ⟨bf, gb, ge, N, capb, n, af, pA, pc, pk⟩ := L
 have c0 := h.f.cellD 0 _ rfl
 have c1 := h.f.cellD 1 _ rfl
 have c2 := h.f.cellD 2 _ rfl
 have c3 := h.f.cellD 3 _ rfl
 have c4 := h.f.cellD 4 _ rfl
 have c5 := h.f.cellD 5 _ rfl
 have c6 := h.f.cellD 6 _ rfl
 have hcap := h.bs.le
 have hcmx := h.bs.max
 have hN := h.nN
 have hn0 := h.n0
 have hn9 := h.n9
 have H := Lib.hid h
 simp only [] at c0 c1 c2 c3 c4 c5 c6 hcap hcmx hN hn0 hn9
 have hNb : N ≤ 262144 := by omega
 have hN1 : 1024 ≤ N := by omega
 have HN := Lib.hid hN
 clear h hN
 simp only [FL.p, FL.pv]
 go_enter Tryz.func111, Tryz.ntmps111
 go_wp2
 go_ret
 exact ⟨rfl, rfl⟩
theorem within_nat {a m : Int} {N : Nat} (h : withinB a m N = true) : ∃ i j : Nat, a = i ∧ m = j ∧ i + j ≤ N := by
 have := of_decide_eq_true h
 exact ⟨a.toNat, m.toNat, by omega, by omega, by omega⟩
theorem tl71 (P : Prop) (h : P := by
 go_enter Tryz.func24, Tryz.ntmps24
 go_wp2_with fail
 refine WI.out.mono ?_
 rintro e w' ⟨rfl, rfl⟩
 go_wp2_with fail
 refine CL.out.mono ?_
 rintro e w1 ⟨v1, rfl, o1, k1⟩
 go_wp2
 go_ret
 exact ⟨_, rfl, o1, k1⟩) : P := h
set_option maxRecDepth 100000 in
theorem fpeek_any (B : Nat) (L : FL) (s : FS) (a m : Int) (w : World) (h : FAt w B L s) : Calls Tryz.prog 24 #[L.p, .int .i64 a, .int .i64 m] w (Cloned w (s.peekF a m)) := by
 have WI := Lib.hid (fwithin_any B L s a m w h)
 have hbl := h.bl
 have hpk : s.peekF a m = if withinB a m L.N = true then (s.b.drop a.toNat).take m.toNat else [] := by unfold FS.peekF; rw [hbl]
 cases hw : withinB a m L.N with
 | false =>
  rw [hw] at WI hpk
  rw [if_neg (by decide)] at hpk
  rw [hpk]
  clear hpk hw hbl
  obtain ⟨bf, gb, ge, N, capb, n, af, pA, pc, pk⟩ := L
  have c0 := h.f.cellD 0 _ rfl
  have c1 := h.f.cellD 1 _ rfl
  have c2 := h.f.cellD 2 _ rfl
  have c3 := h.f.cellD 3 _ rfl
  have c4 := h.f.cellD 4 _ rfl
  have c5 := h.f.cellD 5 _ rfl
  have c6 := h.f.cellD 6 _ rfl
  have hcap := h.bs.le
  have hcmx := h.bs.max
  have hN := h.nN
  have hn0 := h.n0
  have hn9 := h.n9
  have H := Lib.hid h
  simp only [] at c0 c1 c2 c3 c4 c5 c6 hcap hcmx hN hn0 hn9
  have hNb : N ≤ 262144 := by omega
  have hN1 : 1024 ≤ N := by omega
  have HN := Lib.hid hN
  clear h hN
  simp only [FL.p, FL.pv]
  simp only [FL.p] at WI
  go_enter Tryz.func24, Tryz.ntmps24
  go_wp2_with fail
  refine WI.out.mono ?_
  rintro e w' ⟨rfl, rfl⟩
  go_wp2
  go_ret
  exact ⟨_, rfl, Own.nil _ _, Keeps.refl _ _⟩
 | true =>
  rw [hw] at WI hpk
  rw [if_pos rfl] at hpk
  obtain ⟨i, j, rfl, rfl, hij⟩ := within_nat hw
  rw [hpk]
  simp only [Int.toNat_natCast]
  clear hpk hw hbl
  obtain ⟨bf, gb, ge, N, capb, n, af, pA, pc, pk⟩ := L
  have c0 := h.f.cellD 0 _ rfl
  have c1 := h.f.cellD 1 _ rfl
  have c2 := h.f.cellD 2 _ rfl
  have c3 := h.f.cellD 3 _ rfl
  have c4 := h.f.cellD 4 _ rfl
  have c5 := h.f.cellD 5 _ rfl
  have c6 := h.f.cellD 6 _ rfl
  have hcap := h.bs.le
  have hcmx := h.bs.max
  have hN := h.nN
  have hn0 := h.n0
  have hn9 := h.n9
  have H := Lib.hid h
  simp only [] at c0 c1 c2 c3 c4 c5 c6 hcap hcmx hN hn0 hn9
  have hNb : N ≤ 262144 := by omega
  have hN1 : 1024 ≤ N := by omega
  have HN := Lib.hid hN
  clear h hN
  simp only [FL.p, FL.pv]
  simp only [FL.p] at WI
  simp only [] at hij
  have DB := Lib.hid (Bs.take (k := j) (H.out.bs.drop (k := i) (by show i ≤ N; omega)) (by show j ≤ N - i; omega))
  simp only [Nat.zero_add] at DB
  have hsub : i + j - i = j := by omega
  by_cases hc : capb = i
  ·obtain rfl : j = 0 := by omega
   subst hc
   have CL := Lib.hid (clone_any _ _ _ _ w (Bs.empty w ⟨gb, 0, none⟩ 0 (by omega)) (by omega))
   exact tl71 _
  ·have CL := Lib.hid (clone_any _ _ _ _ w DB.out (by omega))
   exact tl71 _
def ReadTold (w : World) (r : List Int × Int) (e : Ending) (w' : World) : Prop := ∃ v, e = .returned (.tuple #[v, .int .i64 r.2]) ∧ Own w' w.heap.size v r.1 ∧ Keeps None w w'
theorem slice_of_own {w : World} {B : Nat} {v : Value} {zs : List Int} (h : Own w B v zs) : ∃ A c, v = .slice A zs.length c ∧ Bs w A zs.length c zs := by
 obtain ⟨A, c, e, hb, -⟩ := h.shape
 exact ⟨A, c, e, hb⟩
set_option maxRecDepth 100000 in
theorem fread_any (B : Nat) (L : FL) (s : FS) (a m : Int) (w : World) (h : FAt w B L s) : Calls Tryz.prog 97 #[L.p, .int .i64 a, .int .i64 m] w (ReadTold w (s.readF a m)) := by
 have WI := Lib.hid (fwithin_any B L s a m w h)
 have PK := Lib.hid (fpeek_any B L s a m w h)
 have hbl := h.bl
 have hrf : s.readF a m = if s.dark = true then ([], 5) else if withinB a m L.N = true then (s.peekF a m, 0) else ([], 2) := by
  unfold FS.readF FS.peekF; rw [hbl]
  split
  ·rfl
  ·split <;> rfl
 cases hd : s.dark with
 | true =>
  rw [hd, if_pos rfl] at hrf
  rw [hrf]
  clear hrf hbl PK WI
  obtain ⟨bf, gb, ge, N, capb, n, af, pA, pc, pk⟩ := L
  have c0 := h.f.cellD 0 _ rfl
  have c1 := h.f.cellD 1 _ rfl
  have c2 := h.f.cellD 2 _ rfl
  have c3 := h.f.cellD 3 _ rfl
  have c4 := h.f.cellD 4 _ rfl
  have c5 := h.f.cellD 5 _ rfl
  have c6 := h.f.cellD 6 _ rfl
  have hcap := h.bs.le
  have hcmx := h.bs.max
  have hN := h.nN
  have hn0 := h.n0
  have hn9 := h.n9
  have H := Lib.hid h
  simp only [] at c0 c1 c2 c3 c4 c5 c6 hcap hcmx hN hn0 hn9
  have hNb : N ≤ 262144 := by omega
  have hN1 : 1024 ≤ N := by omega
  have HN := Lib.hid hN
  clear h hN
  simp only [FL.p, FL.pv]
  rw [hd] at c3
  clear hd
  go_enter Tryz.func97, Tryz.ntmps97
  go_wp2
  go_ret2
  exact ⟨_, rfl, Own.nil _ _, Keeps.refl _ _⟩
 | false =>
  rw [hd, if_neg (by decide)] at hrf
  cases hw : withinB a m L.N with
  | false =>
   rw [hw] at WI hrf
   rw [if_neg (by decide)] at hrf
   rw [hrf]
   clear hrf hbl PK hw
   obtain ⟨bf, gb, ge, N, capb, n, af, pA, pc, pk⟩ := L
   have c0 := h.f.cellD 0 _ rfl
   have c1 := h.f.cellD 1 _ rfl
   have c2 := h.f.cellD 2 _ rfl
   have c3 := h.f.cellD 3 _ rfl
   have c4 := h.f.cellD 4 _ rfl
   have c5 := h.f.cellD 5 _ rfl
   have c6 := h.f.cellD 6 _ rfl
   have hcap := h.bs.le
   have hcmx := h.bs.max
   have hN := h.nN
   have hn0 := h.n0
   have hn9 := h.n9
   have H := Lib.hid h
   simp only [] at c0 c1 c2 c3 c4 c5 c6 hcap hcmx hN hn0 hn9
   have hNb : N ≤ 262144 := by omega
   have hN1 : 1024 ≤ N := by omega
   have HN := Lib.hid hN
   clear h hN
   simp only [FL.p, FL.pv]
   rw [hd] at c3
   clear hd
   simp only [FL.p] at WI
   go_enter Tryz.func97, Tryz.ntmps97
   go_wp2_with fail
   refine WI.out.mono ?_
   rintro e w' ⟨rfl, rfl⟩
   go_wp2
   go_ret2
   exact ⟨_, rfl, Own.nil _ _, Keeps.refl _ _⟩
  | true =>
   rw [hw] at WI hrf
   rw [if_pos rfl] at hrf
   rw [hrf]
   generalize s.peekF a m = ps at *
   clear hrf hbl hw
   obtain ⟨bf, gb, ge, N, capb, n, af, pA, pc, pk⟩ := L
   have c0 := h.f.cellD 0 _ rfl
   have c1 := h.f.cellD 1 _ rfl
   have c2 := h.f.cellD 2 _ rfl
   have c3 := h.f.cellD 3 _ rfl
   have c4 := h.f.cellD 4 _ rfl
   have c5 := h.f.cellD 5 _ rfl
   have c6 := h.f.cellD 6 _ rfl
   have hcap := h.bs.le
   have hcmx := h.bs.max
   have hN := h.nN
   have hn0 := h.n0
   have hn9 := h.n9
   have H := Lib.hid h
   simp only [] at c0 c1 c2 c3 c4 c5 c6 hcap hcmx hN hn0 hn9
   have hNb : N ≤ 262144 := by omega
   have hN1 : 1024 ≤ N := by omega
   have HN := Lib.hid hN
   clear h hN
   simp only [FL.p, FL.pv]
   rw [hd] at c3
   clear hd
   simp only [FL.p] at WI PK
   go_enter Tryz.func97, Tryz.ntmps97
   go_wp2_with fail
   refine WI.out.mono ?_
   rintro e w' ⟨rfl, rfl⟩
   go_wp2_with fail
   refine PK.out.mono ?_
   rintro e w1 ⟨v1, rfl, o1, k1⟩
   go_wp2
   go_ret2
   exact ⟨_, rfl, o1, k1⟩
open Go.RowKit
structure Turn (w w' : World) (B : Nat) (L L' : FL) (s' : FS) : Prop where
  at_ : FAt w' B L' s'
  keeps : Keeps L.O w w'
  bf : L'.bf = L.bf
  n : L'.n = L.n
  o : ∀ k, L'.O k → L.O k ∨ w.heap.size ≤ k
theorem Turn.self {w : World} {B : Nat} {L : FL} {s : FS} (h : FAt w B L s) : Turn w w B L L s := ⟨h, Keeps.refl _ _, rfl, rfl, fun _ h => .inl h⟩
theorem FAt.head {w w' : World} {B : Nat} {L : FL} {s s' : FS} {af' : Int} (h : FAt w B L s) (hk : Keeps (fun k => k = L.bf) w w')
    (hf : Blk w' L.bf [.slice (some ⟨L.gb, 0, none⟩) L.N L.capb, .slice (some ⟨L.ge, 0, none⟩) L.n L.n, .int .i64 s'.steps, .bool s'.dark, .bool (decide (0 ≤ s'.left)), .int .i64 af', .slice L.pA L.pk.length L.pc] 70)
    (hb : s'.b = s.b) (he : s'.er = s.er) (ha : 0 ≤ s'.left → af' = s'.left ∧ L.pk = s'.pick) (hm : -1 ≤ s'.left) (hx : s'.left ≤ 9223372036854775807) : FAt w' B { L with af := af' } s' :=
  ⟨hf, by rw [hb]; exact h.b.keeps hk (fun b e => by cases e; exact fun e => h.d1 e.symm), by rw [he]; exact hk.blk h.e (fun e => h.d2 e.symm), h.p.keeps hk (fun b e hb => h.pn b e (.inl hb)), by rw [he]; exact h.el, ha, hm, hx, h.nN, h.n0, h.n9, h.bB, h.eB, h.d1, h.d2, h.d3, h.pn⟩
theorem FAt.bytes {w w' : World} {B : Nat} {L : FL} {s : FS} {b' : List Int} (h : FAt w B L s) (hk : Keeps (fun k => k = L.gb) w w') (hb : Own w' B (.slice (some ⟨L.gb, 0, none⟩) L.N L.capb) b') : FAt w' B L { s with b := b' } :=
  ⟨hk.blk h.f h.d1, hb, hk.blk h.e (fun e => h.d3 e.symm), h.p.keeps hk (fun b e hb => h.pn b e (.inr (.inl hb))), h.el, h.armed, h.lm, h.lx, h.nN, h.n0, h.n9, h.bB, h.eB, h.d1, h.d2, h.d3, h.pn⟩
theorem FAt.sect {w w' : World} {B : Nat} {L : FL} {s : FS} {er' : List Int} (h : FAt w B L s) (hk : Keeps (fun k => k = L.ge) w w') (he : Blk w' L.ge (er'.map (.int .i64)) 3) (hl : er'.length = s.er.length) : FAt w' B L { s with er := er' } :=
  ⟨hk.blk h.f h.d2, h.b.keeps hk (fun b e => by cases e; exact h.d3), he, h.p.keeps hk (fun b e hb => h.pn b e (.inr (.inr hb))), hl.trans h.el, h.armed, h.lm, h.lx, h.nN, h.n0, h.n9, h.bB, h.eB, h.d1, h.d2, h.d3, h.pn⟩
theorem FAt.frz {w : World} {B : Nat} {L : FL} {s : FS} (h : FAt w B L s) (i : Nat) : w.frozen? ⟨L.bf, i, none⟩ = false := h.f.frozen i
theorem Turn.ofHead {w w' : World} {B : Nat} {L : FL} {s' : FS} {af' : Int} (hk : Keeps (fun k => k = L.bf) w w') (h : FAt w' B { L with af := af' } s') : Turn w w' B L { L with af := af' } s' :=
  ⟨h, hk.mono (fun i _ e => .inl (.inl e)), rfl, rfl, fun _ h => .inl h⟩
set_option maxRecDepth 100000 in
theorem fboot_any (B : Nat) (L : FL) (s : FS) (w : World) (h : FAt w B L s) : Calls Tryz.prog 19 #[L.p] w fun e w' => e = .returned (.tuple #[]) ∧ ∃ L', Turn w w' B L L' s.bootF := by
 obtain ⟨bf, gb, ge, N, capb, n, af, pA, pc, pk⟩ := L
 have c0 := h.f.cellD 0 _ rfl
 have c1 := h.f.cellD 1 _ rfl
 have c2 := h.f.cellD 2 _ rfl
 have c3 := h.f.cellD 3 _ rfl
 have c4 := h.f.cellD 4 _ rfl
 have c5 := h.f.cellD 5 _ rfl
 have c6 := h.f.cellD 6 _ rfl
 have hcap := h.bs.le
 have hcmx := h.bs.max
 have hN := h.nN
 have hn0 := h.n0
 have hn9 := h.n9
 have H := Lib.hid h
 simp only [] at c0 c1 c2 c3 c4 c5 c6 hcap hcmx hN hn0 hn9
 have hNb : N ≤ 262144 := by omega
 have hN1 : 1024 ≤ N := by omega
 have HN := Lib.hid hN
 clear h hN
 simp only [FL.p, FL.pv]
 have z0 := H.out.frz 0
 have z1 := H.out.frz 1
 have z2 := H.out.frz 2
 have z3 := H.out.frz 3
 have z4 := H.out.frz 4
 have z5 := H.out.frz 5
 have z6 := H.out.frz 6
 simp only [] at z0 z1 z2 z3 z4 z5 z6
 go_enter Tryz.func19, Tryz.ntmps19
 go_wp2
 go_end0
 have hk : Keeps (fun k => k = bf) w ((w.setCell ⟨bf, 4, none⟩ (.bool false)).setCell ⟨bf, 3, none⟩ (.bool false)) := ((Keeps.self bf w).put 4 _).put 3 _
 exact ⟨rfl, _, Turn.ofHead (L := ⟨bf, gb, ge, N, capb, n, af, pA, pc, pk⟩) hk (H.out.head hk ((H.out.f.set 4 _).set 3 _) rfl rfl (fun h => absurd h (show ¬ (0 : Int) ≤ -1 by decide)) (show (-1 : Int) ≤ -1 by decide) (show (-1 : Int) ≤ 9223372036854775807 by decide))⟩
def Broke (w : World) (B : Nat) (L : FL) (s : FS) (e : Ending) (w' : World) : Prop := e = .returned (.bool (decide (s.left = 0))) ∧ Keeps (fun k => k = L.bf) w w' ∧ ∃ af', FAt w' B { L with af := af' } s.stepped
set_option maxRecDepth 100000 in
theorem fbroken_any (B : Nat) (L : FL) (s : FS) (w : World) (h : FAt w B L s) (hst : 0 ≤ s.steps ∧ s.steps ≤ 1000000000000) : Calls Tryz.prog 117 #[L.p] w (Broke w B L s) := by
 obtain ⟨st1, st2⟩ := hst
 have lm := h.lm
 have lx := h.lx
 have ha := h.armed
 by_cases q1 : s.left < 0
 ·have e1 : decide (0 ≤ s.left) = false := decide_eq_false (by omega)
  have ES : Hid (s.stepped = { s with steps := s.steps + 1 }) := if_pos q1
  have EL : Hid (decide (s.left = 0) = false) := decide_eq_false (by omega)
  obtain ⟨bf, gb, ge, N, capb, n, af, pA, pc, pk⟩ := L
  have c0 := h.f.cellD 0 _ rfl
  have c1 := h.f.cellD 1 _ rfl
  have c2 := h.f.cellD 2 _ rfl
  have c3 := h.f.cellD 3 _ rfl
  have c4 := h.f.cellD 4 _ rfl
  have c5 := h.f.cellD 5 _ rfl
  have c6 := h.f.cellD 6 _ rfl
  have hcap := h.bs.le
  have hcmx := h.bs.max
  have hN := h.nN
  have hn0 := h.n0
  have hn9 := h.n9
  have H := Lib.hid h
  simp only [] at c0 c1 c2 c3 c4 c5 c6 hcap hcmx hN hn0 hn9
  have hNb : N ≤ 262144 := by omega
  have hN1 : 1024 ≤ N := by omega
  have HN := Lib.hid hN
  clear h hN
  simp only [FL.p, FL.pv]
  have z0 := H.out.frz 0
  have z1 := H.out.frz 1
  have z2 := H.out.frz 2
  have z3 := H.out.frz 3
  have z4 := H.out.frz 4
  have z5 := H.out.frz 5
  have z6 := H.out.frz 6
  simp only [] at z0 z1 z2 z3 z4 z5 z6
  rw [e1] at c4
  simp only [] at ha
  have HA := Lib.hid ha
  have Q1 := Lib.hid q1
  clear ha q1 e1
  go_enter Tryz.func117, Tryz.ntmps117
  go_wp2
  go_ret
  have hk : Keeps (fun k => k = bf) w (w.setCell ⟨bf, 2, none⟩ (.int .i64 (s.steps + 1))) := (Keeps.self bf w).put 2 _
  refine ⟨ret_bool EL.out.symm, hk, af, ?_⟩
  rw [ES.out]
  exact H.out.head hk (H.out.f.set 2 _) rfl rfl HA.out lm lx
 ·obtain ⟨a1, a2⟩ := ha (by omega)
  by_cases q2 : s.left = 0
  ·have e1 : decide (0 ≤ s.left) = true := decide_eq_true (by omega)
   have ES : Hid (s.stepped = { s with steps := s.steps + 1, left := -1, pick := [], dark := true }) := by
    show s.stepped = _
    unfold FS.stepped; rw [if_neg q1, if_pos q2]
   have EL : Hid (decide (s.left = 0) = true) := decide_eq_true q2
   obtain ⟨bf, gb, ge, N, capb, n, af, pA, pc, pk⟩ := L
   have c0 := h.f.cellD 0 _ rfl
   have c1 := h.f.cellD 1 _ rfl
   have c2 := h.f.cellD 2 _ rfl
   have c3 := h.f.cellD 3 _ rfl
   have c4 := h.f.cellD 4 _ rfl
   have c5 := h.f.cellD 5 _ rfl
   have c6 := h.f.cellD 6 _ rfl
   have hcap := h.bs.le
   have hcmx := h.bs.max
   have hN := h.nN
   have hn0 := h.n0
   have hn9 := h.n9
   have H := Lib.hid h
   simp only [] at c0 c1 c2 c3 c4 c5 c6 hcap hcmx hN hn0 hn9
   have hNb : N ≤ 262144 := by omega
   have hN1 : 1024 ≤ N := by omega
   have HN := Lib.hid hN
   clear h hN
   simp only [FL.p, FL.pv]
   have z0 := H.out.frz 0
   have z1 := H.out.frz 1
   have z2 := H.out.frz 2
   have z3 := H.out.frz 3
   have z4 := H.out.frz 4
   have z5 := H.out.frz 5
   have z6 := H.out.frz 6
   simp only [] at z0 z1 z2 z3 z4 z5 z6
   simp only [] at a1 a2
   rw [e1] at c4
   rw [a1, q2] at c5
   clear a1 a2 q1 q2 e1 ha
   go_enter Tryz.func117, Tryz.ntmps117
   go_wp2
   go_ret
   have hk : Keeps (fun k => k = bf) w (((w.setCell ⟨bf, 2, none⟩ (.int .i64 (s.steps + 1))).setCell ⟨bf, 4, none⟩ (.bool false)).setCell ⟨bf, 3, none⟩ (.bool true)) := (((Keeps.self bf w).put 2 _).put 4 _).put 3 _
   refine ⟨ret_bool EL.out.symm, hk, af, ?_⟩
   rw [ES.out]
   exact H.out.head hk (((H.out.f.set 2 _).set 4 _).set 3 _) rfl rfl (fun h => absurd h (show ¬ (0 : Int) ≤ -1 by decide)) (show (-1 : Int) ≤ -1 by decide) (show (-1 : Int) ≤ 9223372036854775807 by decide)
  ·have e1 : decide (0 ≤ s.left) = true := decide_eq_true (by omega)
   have e2 : decide (0 < s.left) = true := decide_eq_true (by omega)
   have ES : Hid (s.stepped = { s with steps := s.steps + 1, left := s.left - 1 }) := by
    show s.stepped = _
    unfold FS.stepped; rw [if_neg q1, if_neg q2]
   have EL : Hid (decide (s.left = 0) = false) := decide_eq_false q2
   have lp : 0 < s.left := by omega
   have E3 : Hid (decide (0 ≤ s.left) = decide (0 ≤ s.left - 1)) := by show decide _ = decide _; rw [e1]; exact (decide_eq_true (by omega)).symm
   obtain ⟨bf, gb, ge, N, capb, n, af, pA, pc, pk⟩ := L
   have c0 := h.f.cellD 0 _ rfl
   have c1 := h.f.cellD 1 _ rfl
   have c2 := h.f.cellD 2 _ rfl
   have c3 := h.f.cellD 3 _ rfl
   have c4 := h.f.cellD 4 _ rfl
   have c5 := h.f.cellD 5 _ rfl
   have c6 := h.f.cellD 6 _ rfl
   have hcap := h.bs.le
   have hcmx := h.bs.max
   have hN := h.nN
   have hn0 := h.n0
   have hn9 := h.n9
   have H := Lib.hid h
   simp only [] at c0 c1 c2 c3 c4 c5 c6 hcap hcmx hN hn0 hn9
   have hNb : N ≤ 262144 := by omega
   have hN1 : 1024 ≤ N := by omega
   have HN := Lib.hid hN
   clear h hN
   simp only [FL.p, FL.pv]
   have z0 := H.out.frz 0
   have z1 := H.out.frz 1
   have z2 := H.out.frz 2
   have z3 := H.out.frz 3
   have z4 := H.out.frz 4
   have z5 := H.out.frz 5
   have z6 := H.out.frz 6
   simp only [] at z0 z1 z2 z3 z4 z5 z6
   simp only [] at a1 a2
   rw [e1] at c4
   rw [a1] at c5
   have A2 := Lib.hid a2
   clear a1 a2 q1 q2 ha
   go_enter Tryz.func117, Tryz.ntmps117
   go_wp2
   go_ret
   have hk : Keeps (fun k => k = bf) w ((w.setCell ⟨bf, 2, none⟩ (.int .i64 (s.steps + 1))).setCell ⟨bf, 5, none⟩ (.int .i64 (s.left - 1))) := ((Keeps.self bf w).put 2 _).put 5 _
   refine ⟨ret_bool EL.out.symm, hk, s.left - 1, ?_⟩
   rw [ES.out]
   have hb := (H.out.f.set 2 (.int .i64 (s.steps + 1))).set 5 (.int .i64 (s.left - 1))
   rw [E3.out] at hb
   exact H.out.head hk hb rfl rfl (fun _ => ⟨rfl, A2.out⟩) (by show -1 ≤ s.left - 1; omega) (by show s.left - 1 ≤ _; omega)
theorem FAt.rearm {w w1 w' : World} {B : Nat} {L : FL} {s s' : FS} {af' : Int} {A : Option Addr} {c : Nat} {ps : List Int} (h : FAt w B L s) (k1 : Keeps None w w1) (o1 : Own w1 w.heap.size (.slice A ps.length c) ps) (hk : Keeps (fun k => k = L.bf) w1 w')
    (hf : Blk w' L.bf [.slice (some ⟨L.gb, 0, none⟩) L.N L.capb, .slice (some ⟨L.ge, 0, none⟩) L.n L.n, .int .i64 s'.steps, .bool s'.dark, .bool (decide (0 ≤ s'.left)), .int .i64 af', .slice A ps.length c] 70)
    (hb : s'.b = s.b) (he : s'.er = s.er) (ha : 0 ≤ s'.left → af' = s'.left ∧ ps = s'.pick) (hm : -1 ≤ s'.left) (hx : s'.left ≤ 9223372036854775807) :
    Turn w w' B L { L with af := af', pA := A, pc := c, pk := ps } s' := by
 have hbf : L.bf < w.heap.size := h.lt _ (.inl (.inl rfl))
 have hnew : ∀ g, (Value.slice A ps.length c).ownBlock = some g → w.heap.size ≤ g := fun g hg => Nat.le_of_not_lt fun hlt => o1.notBelow hlt hg
 have k2 : Keeps (fun k => k = L.bf) w w' := k1.trans hk (fun _ h => h.elim) (fun _ _ h => h)
 refine ⟨⟨hf, by rw [hb]; exact h.b.keeps k2 (fun b e => by cases e; exact fun e => h.d1 e.symm), by rw [he]; exact k2.blk h.e (fun e => h.d2 e.symm), ?_, by rw [he]; exact h.el, ha, hm, hx, h.nN, h.n0, h.n9, h.bB, h.eB, h.d1, h.d2, h.d3, ?_⟩,
  k2.mono (fun i _ e => .inl (.inl e)), rfl, rfl, ?_⟩
 ·exact (o1.lower (Nat.le_trans h.bB (Nat.le_of_lt hbf))).keeps hk (fun b e hb => by have := hnew b e; subst hb; omega)
 ·intro g hg hS
  have h1 := hnew g hg
  have h2 := h.lt g (.inl hS)
  omega
 ·intro k hk'
  rcases hk' with hS | hp
  ·exact .inl (.inl hS)
  ·exact .inr (hnew k hp)
set_option maxRecDepth 100000 in
theorem farm_any (B : Nat) (L : FL) (s : FS) (after : Int) (A : Option Addr) (m c : Nat) (ps : List Int) (w : World) (h : FAt w B L s) (hx : after ≤ 9223372036854775807) (hb : Bs w A m c ps) (hm : m ≤ 140737488355328) :
    Calls Tryz.prog 17 #[L.p, .int .i64 after, .slice A m c] w fun e w' => e = .returned (.tuple #[]) ∧ ∃ L', Turn w w' B L L' (s.armF after ps) := by
 have CL := Lib.hid (clone_any A m c ps w hb hm)
 have AF : Hid ((s.armF after ps).steps = s.steps ∧ (s.armF after ps).dark = s.dark ∧ decide (0 ≤ (s.armF after ps).left) = decide (0 ≤ after) ∧ (s.armF after ps).b = s.b ∧ (s.armF after ps).er = s.er ∧ (0 ≤ (s.armF after ps).left → after = (s.armF after ps).left ∧ ps = (s.armF after ps).pick) ∧ -1 ≤ (s.armF after ps).left ∧ (s.armF after ps).left ≤ 9223372036854775807) := by
  show _ ∧ _
  unfold FS.armF
  split
  ·rename_i q
   exact ⟨rfl, rfl, by show decide ((0 : Int) ≤ -1) = _; rw [decide_eq_false (by decide), decide_eq_false (by omega)], rfl, rfl, fun h => absurd h (show ¬ (0 : Int) ≤ -1 by decide), (show (-1 : Int) ≤ -1 by decide), (show (-1 : Int) ≤ 9223372036854775807 by decide)⟩
  ·rename_i q
   exact ⟨rfl, rfl, rfl, rfl, rfl, fun _ => ⟨rfl, rfl⟩, by show -1 ≤ after; omega, hx⟩
 generalize s.armF after ps = s' at *
 obtain ⟨bA, hbA⟩ : ∃ b, Hid (decide (0 ≤ after) = b) := ⟨_, rfl⟩
 have hd0 := hbA.out
 obtain ⟨bf, gb, ge, N, capb, n, af, pA, pc, pk⟩ := L
 have c0 := h.f.cellD 0 _ rfl
 have c1 := h.f.cellD 1 _ rfl
 have c2 := h.f.cellD 2 _ rfl
 have c3 := h.f.cellD 3 _ rfl
 have c4 := h.f.cellD 4 _ rfl
 have c5 := h.f.cellD 5 _ rfl
 have c6 := h.f.cellD 6 _ rfl
 have hcap := h.bs.le
 have hcmx := h.bs.max
 have hN := h.nN
 have hn0 := h.n0
 have hn9 := h.n9
 have H := Lib.hid h
 simp only [] at c0 c1 c2 c3 c4 c5 c6 hcap hcmx hN hn0 hn9
 have hNb : N ≤ 262144 := by omega
 have hN1 : 1024 ≤ N := by omega
 have HN := Lib.hid hN
 clear h hN
 simp only [FL.p, FL.pv]
 clear hb
 go_enter Tryz.func17, Tryz.ntmps17
 go_wp2_with fail
 refine CL.out.mono ?_
 rintro e w1 ⟨v1, rfl, o1, k1⟩
 obtain ⟨A1, cap1, rfl, bs1, -⟩ := o1.shape
 have O1 := Lib.hid o1
 have K1 := Lib.hid k1
 have H1 := Lib.hid (H.out.later k1)
 clear o1 k1 bs1 c0 c1 c2 c3 c4 c5 c6
 have z4 := H1.out.frz 4
 have z5 := H1.out.frz 5
 have z6 := H1.out.frz 6
 have y4 := H1.out.f.cellD 4 _ rfl
 have y5 := H1.out.f.cellD 5 _ rfl
 have y6 := H1.out.f.cellD 6 _ rfl
 simp only [] at z4 z5 z6 y4 y5 y6
 go_wp2
 go_end0
 have hk : Keeps (fun k => k = bf) w1 (((w1.setCell ⟨bf, 4, none⟩ (.bool bA)).setCell ⟨bf, 5, none⟩ (.int .i64 after)).setCell ⟨bf, 6, none⟩ (.slice A1 ps.length cap1)) := (((Keeps.self bf w1).put 4 _).put 5 _).put 6 _
 obtain ⟨f1, f2, f3, f4, f5, f6, f7, f8⟩ := AF.out
 have hbk := ((H1.out.f.set 4 (.bool bA)).set 5 (.int .i64 after)).set 6 (.slice A1 ps.length cap1)
 refine ⟨rfl, _, H.out.rearm K1.out O1.out hk (s' := s') (af' := after) ?_ f4 f5 f6 f7 f8⟩
 rw [f1, f2, f3, hbA.out]
 exact hbk
theorem FAt.cut {w : World} {B : Nat} {L : FL} {s : FS} (h : FAt w B L s) {i j : Nat} (hij : i + j ≤ L.N) : Bs w (some ⟨L.gb, i, none⟩) j (L.capb - i) ((s.b.drop i).take j) := by
 have := Bs.take (k := j) (h.bs.drop (k := i) (by omega)) (by omega)
 rwa [Nat.zero_add] at this
theorem tl72 (P : Prop) (h : P := by
 go_enter Tryz.func116, Tryz.ntmps116
 go_wp2_with fail
 refine CN.out.mono ?_
 rintro e w1 ⟨rfl, q, rfl⟩
 go_wp2
 go_ret
 exact ⟨rfl, q, rfl⟩) : P := h
set_option maxRecDepth 100000 in
theorem fdirty_any (B : Nat) (L : FL) (s : FS) (i : Nat) (A : Option Addr) (m c : Nat) (zs : List Int) (w : World) (h : FAt w B L s) (hb : Bs w A m c zs) (hi : i + m ≤ L.N) :
    Calls Tryz.prog 116 #[L.p, .int .i64 i, .slice A m c] w (Told (!canN ((s.b.drop i).take m) zs) w) := by
 have hle := hb.le
 have hmx := hb.max
 by_cases hc : L.capb = i
 ·have hN := h.bs.le
  obtain rfl : m = 0 := by omega
  have e0 : zs = [] := List.eq_nil_of_length_eq_zero hb.len
  subst e0
  have CN := Lib.hid (can_any (some ⟨L.gb, 0, none⟩) A 0 0 0 c [] [] w (Bs.empty _ _ _ (by omega)) hb)
  simp only [List.take_zero]
  have hcn : canN [] [] = true := rfl
  rw [hcn] at CN ⊢
  clear hb hcn
  obtain ⟨bf, gb, ge, N, capb, n, af, pA, pc, pk⟩ := L
  have c0 := h.f.cellD 0 _ rfl
  have c1 := h.f.cellD 1 _ rfl
  have c2 := h.f.cellD 2 _ rfl
  have c3 := h.f.cellD 3 _ rfl
  have c4 := h.f.cellD 4 _ rfl
  have c5 := h.f.cellD 5 _ rfl
  have c6 := h.f.cellD 6 _ rfl
  have hcap := h.bs.le
  have hcmx := h.bs.max
  have hN := h.nN
  have hn0 := h.n0
  have hn9 := h.n9
  have H := Lib.hid h
  simp only [] at c0 c1 c2 c3 c4 c5 c6 hcap hcmx hN hn0 hn9
  have hNb : N ≤ 262144 := by omega
  have hN1 : 1024 ≤ N := by omega
  have HN := Lib.hid hN
  clear h hN
  simp only [FL.p, FL.pv]
  simp only [] at hc hi CN
  subst hc
  exact tl72 _
 ·have CN := Lib.hid (can_any _ A m _ m c _ zs w (h.cut (i := i) (j := m) hi) hb)
  generalize canN ((s.b.drop i).take m) zs = cb at *
  have hsub : i + m - i = m := by omega
  clear hb
  obtain ⟨bf, gb, ge, N, capb, n, af, pA, pc, pk⟩ := L
  have c0 := h.f.cellD 0 _ rfl
  have c1 := h.f.cellD 1 _ rfl
  have c2 := h.f.cellD 2 _ rfl
  have c3 := h.f.cellD 3 _ rfl
  have c4 := h.f.cellD 4 _ rfl
  have c5 := h.f.cellD 5 _ rfl
  have c6 := h.f.cellD 6 _ rfl
  have hcap := h.bs.le
  have hcmx := h.bs.max
  have hN := h.nN
  have hn0 := h.n0
  have hn9 := h.n9
  have H := Lib.hid h
  simp only [] at c0 c1 c2 c3 c4 c5 c6 hcap hcmx hN hn0 hn9
  have hNb : N ≤ 262144 := by omega
  have hN1 : 1024 ≤ N := by omega
  have HN := Lib.hid hN
  clear h hN
  simp only [FL.p, FL.pv]
  simp only [] at hc hi CN
  exact tl72 _
open Go.RowKit
theorem tornN_len8 {os ns ps : List Int} (h : canN os ns = true) : (tornN os ns ps).length = ns.length := by rw [tornN, if_pos h, tornTo_length]
theorem stepped_steps_le {s : FS} {a b : Int} (h1 : 0 ≤ s.steps) (h2 : s.steps + (a + 1) ≤ b) : 0 ≤ s.stepped.steps ∧ s.stepped.steps + a ≤ b := by rw [FS.stepped_steps]; omega
theorem can_word {L zs : List Int} {p k iv : Nat} (h : canN ((L.drop p).take (8 * (k + 1))) (zs.drop iv) = true) : canN ((L.drop p).take 8) ((zs.drop iv).take 8) = true := by
 have := canN_take h 8
 rwa [List.take_take, Nat.min_eq_left (by omega)] at this
theorem can_rest {L zs X : List Int} {p k iv : Nat} (hX : X.length = 8) (hp : p + 8 ≤ L.length) (h : canN ((L.drop p).take (8 * (k + 1))) (zs.drop iv) = true) : canN (((splice L p X).drop (p + 8)).take (8 * k)) (zs.drop (iv + 8)) = true := by
 have h2 := canN_drop h 8
 rw [List.drop_take, List.drop_drop, List.drop_drop] at h2
 rw [splice_drop _ _ _ _ (by omega) (by omega)]
 have e : 8 * (k + 1) - 8 = 8 * k := by omega
 rwa [e] at h2
theorem progW_cut {k : Nat} {s : FS} {p : Nat} {ws : List Int} {R : FS × Int} (h : progW (k + 1) s p ws = R) (h0 : s.left = 0) : R = ({ s.stepped with b := splice s.b p (tornN ((s.b.drop p).take 8) (ws.take 8) s.pick) }, 5) := by
 rw [← h]; show (if _ then _ else _) = _; rw [if_pos h0]
theorem progW_go {k : Nat} {s : FS} {p : Nat} {ws : List Int} {R : FS × Int} (h : progW (k + 1) s p ws = R) (h0 : ¬ s.left = 0) : progW k { s.stepped with b := splice s.b p (ws.take 8) } (p + 8) (ws.drop 8) = R := by
 rw [← h]; show _ = (if _ then _ else _); rw [if_neg h0]
def ProgTold (w : World) (B : Nat) (L : FL) (r : FS × Int) (e : Ending) (w' : World) : Prop := e = .returned (.int .i64 r.2) ∧ ∃ L', Turn w w' B L L' r.1
theorem tl73 (P : Prop) (h : P := by
 obtain ⟨bf, gb, ge, N, capb, n, af, pA, pc, pk⟩ := L
 have c0 := h.f.cellD 0 _ rfl
 have c1 := h.f.cellD 1 _ rfl
 have c2 := h.f.cellD 2 _ rfl
 have c3 := h.f.cellD 3 _ rfl
 have c4 := h.f.cellD 4 _ rfl
 have c5 := h.f.cellD 5 _ rfl
 have c6 := h.f.cellD 6 _ rfl
 have hcap := h.bs.le
 have hcmx := h.bs.max
 have hN := h.nN
 have hn0 := h.n0
 have hn9 := h.n9
 have H := Lib.hid h
 simp only [] at c0 c1 c2 c3 c4 c5 c6 hcap hcmx hN hn0 hn9
 have hNb : N ≤ 262144 := by omega
 have hN1 : 1024 ≤ N := by omega
 have HN := Lib.hid hN
 clear h hN
 simp only [FL.p, FL.pv]
 rw [HL0.out] at HT
 rw [hd] at c3
 clear hd HL0
 simp only [FL.p] at WI
 go_enter Tryz.func104, Tryz.ntmps104
 go_wp2_with fail
 refine WI.out.mono ?_
 rintro e w' ⟨rfl, rfl⟩
 go_wp2
 go_ret
 rw [PG.out]
 exact ⟨rfl, _, HT.out⟩) : P := h
theorem tl74 (P : Prop) (h : P := by
 clear hb hA
 exact tl73 _) : P := h
theorem tl75 (P : Prop) (h : P := by
 show _ = _
 rw [PF.out, if_neg (by decide), if_neg (by decide), if_neg (by omega), if_neg (by decide), ← hR, hK, Nat.mul_div_cancel_left _ (by decide)]) : P := h
set_option maxRecDepth 100000 in
set_option maxHeartbeats 1600000 in
theorem fprogram_any (B : Nat) (L : FL) (s : FS) (a : Int) (A : Option Addr) (m c : Nat) (zs : List Int) (w : World) (h : FAt w B L s) (hb : Bs w A m c zs) (hst : 0 ≤ s.steps ∧ s.steps + m ≤ 1000000000000)
    (hA : ∀ b off, 0 < m → A = some ⟨b, off, none⟩ → ¬ L.S b) : Calls Tryz.prog 104 #[L.p, .int .i64 a, .slice A m c] w (ProgTold w B L (s.progF a zs)) := by
 have WI := Lib.hid (fwithin_any B L s a m w h)
 have hbl := h.bl
 have hml := hb.len
 have hle := hb.le
 have hmx := hb.max
 have PF : Hid (s.progF a zs = if s.dark = true then (s, 5) else if withinB a m L.N = false then (s, 2) else if a % 8 ≠ 0 ∨ m % 8 ≠ 0 then (s, 3) else if canN ((s.b.drop a.toNat).take m) zs = false then (s, 4) else progW (m / 8) s a.toNat zs) := by
  show s.progF a zs = _
  unfold FS.progF; rw [hbl, hml]
 have HT := Lib.hid (Turn.self h)
 obtain ⟨L0, hL0⟩ : ∃ x, x = L := ⟨_, rfl⟩
 have HL0 := Lib.hid hL0
 rw [← hL0] at HT
 clear hL0 hbl
 cases hd : s.dark with
 | true =>
  rw [hd] at PF
  have PG : Hid (s.progF a zs = (s, 5)) := by show _ = _; rw [PF.out, if_pos rfl]
  clear WI hb hA
  obtain ⟨bf, gb, ge, N, capb, n, af, pA, pc, pk⟩ := L
  have c0 := h.f.cellD 0 _ rfl
  have c1 := h.f.cellD 1 _ rfl
  have c2 := h.f.cellD 2 _ rfl
  have c3 := h.f.cellD 3 _ rfl
  have c4 := h.f.cellD 4 _ rfl
  have c5 := h.f.cellD 5 _ rfl
  have c6 := h.f.cellD 6 _ rfl
  have hcap := h.bs.le
  have hcmx := h.bs.max
  have hN := h.nN
  have hn0 := h.n0
  have hn9 := h.n9
  have H := Lib.hid h
  simp only [] at c0 c1 c2 c3 c4 c5 c6 hcap hcmx hN hn0 hn9
  have hNb : N ≤ 262144 := by omega
  have hN1 : 1024 ≤ N := by omega
  have HN := Lib.hid hN
  clear h hN
  simp only [FL.p, FL.pv]
  rw [HL0.out] at HT
  rw [hd] at c3
  clear hd HL0
  go_enter Tryz.func104, Tryz.ntmps104
  go_wp2
  go_ret
  rw [PG.out]
  exact ⟨rfl, _, HT.out⟩
 | false =>
 rw [hd] at PF
 cases hw : withinB a m L.N with
 | false =>
  rw [hw] at PF WI
  have PG : Hid (s.progF a zs = (s, 2)) := by show _ = _; rw [PF.out, if_neg (by decide), if_pos rfl]
  clear hb hA hw
  exact tl73 _
 | true =>
 rw [hw] at PF WI
 obtain ⟨i, j, rfl, hj, hij⟩ := within_nat hw
 obtain rfl : m = j := by omega
 simp only [Int.toNat_natCast] at PF
 clear hw hj
 by_cases g1 : i % 8 = 0
 case neg =>
  have PG : Hid (s.progF i zs = (s, 3)) := by show _ = _; rw [PF.out, if_neg (by decide), if_neg (by decide), if_pos (.inl (by omega))]
  have e1 : ((i : Int) % 8 != 0) = true := by simp; omega
  exact tl74 _
 have e1 : ((i : Int) % 8 != 0) = false := by simp; omega
 by_cases g2 : m % 8 = 0
 case neg =>
  have PG : Hid (s.progF i zs = (s, 3)) := by show _ = _; rw [PF.out, if_neg (by decide), if_neg (by decide), if_pos (.inr g2)]
  have e2 : ((m : Int) % 8 != 0) = true := by simp; omega
  exact tl74 _
 have e2 : ((m : Int) % 8 != 0) = false := by simp; omega
 have DI := Lib.hid (fdirty_any B L s i A m c zs w h hb hij)
 cases hc : canN ((s.b.drop i).take m) zs with
 | false =>
  rw [hc] at PF DI
  have PG : Hid (s.progF i zs = (s, 4)) := by show _ = _; rw [PF.out, if_neg (by decide), if_neg (by decide), if_neg (by omega), if_pos rfl]
  clear hb hA hc
  obtain ⟨bf, gb, ge, N, capb, n, af, pA, pc, pk⟩ := L
  have c0 := h.f.cellD 0 _ rfl
  have c1 := h.f.cellD 1 _ rfl
  have c2 := h.f.cellD 2 _ rfl
  have c3 := h.f.cellD 3 _ rfl
  have c4 := h.f.cellD 4 _ rfl
  have c5 := h.f.cellD 5 _ rfl
  have c6 := h.f.cellD 6 _ rfl
  have hcap := h.bs.le
  have hcmx := h.bs.max
  have hN := h.nN
  have hn0 := h.n0
  have hn9 := h.n9
  have H := Lib.hid h
  simp only [] at c0 c1 c2 c3 c4 c5 c6 hcap hcmx hN hn0 hn9
  have hNb : N ≤ 262144 := by omega
  have hN1 : 1024 ≤ N := by omega
  have HN := Lib.hid hN
  clear h hN
  simp only [FL.p, FL.pv]
  rw [HL0.out] at HT
  rw [hd] at c3
  clear hd HL0
  simp only [FL.p] at WI DI
  go_enter Tryz.func104, Tryz.ntmps104
  go_wp2_with fail
  refine WI.out.mono ?_
  rintro e w' ⟨rfl, rfl⟩
  go_wp2_with fail
  refine DI.out.mono ?_
  rintro e w1 ⟨rfl, q, rfl⟩
  go_wp2
  go_ret
  rw [PG.out]
  exact ⟨rfl, _, ⟨HT.out.at_.later ((Keeps.refl None w).drewN q), (Keeps.refl _ w).drewN q, rfl, rfl, fun _ h => .inl h⟩⟩
 | true =>
 rw [hc] at PF DI
 obtain ⟨K, hK⟩ : ∃ K, m = 8 * K := ⟨m / 8, by omega⟩
 obtain ⟨R, hR⟩ : ∃ R, progW K s i zs = R := ⟨_, rfl⟩
 have PG : Hid (s.progF i zs = R) := by
  exact tl75 _
 rw [PG.out]
 have HR := Lib.hid hR
 have HC := Lib.hid hc
 have HML := Lib.hid hml
 have HB := Lib.hid hb
 have HA := Lib.hid hA
 have hK8 : m ≤ 262144 := by have := h.nN; have := h.n9; omega
 have HK := Lib.hid hK
 obtain ⟨st1, st2⟩ := hst
 clear hb hA hc PF PG hR hml HT hK
 obtain ⟨bf, gb, ge, N, capb, n, af, pA, pc, pk⟩ := L
 have c0 := h.f.cellD 0 _ rfl
 have c1 := h.f.cellD 1 _ rfl
 have c2 := h.f.cellD 2 _ rfl
 have c3 := h.f.cellD 3 _ rfl
 have c4 := h.f.cellD 4 _ rfl
 have c5 := h.f.cellD 5 _ rfl
 have c6 := h.f.cellD 6 _ rfl
 have hcap := h.bs.le
 have hcmx := h.bs.max
 have hN := h.nN
 have hn0 := h.n0
 have hn9 := h.n9
 have H := Lib.hid h
 simp only [] at c0 c1 c2 c3 c4 c5 c6 hcap hcmx hN hn0 hn9
 have hNb : N ≤ 262144 := by omega
 have hN1 : 1024 ≤ N := by omega
 have HN := Lib.hid hN
 clear h hN
 simp only [FL.p, FL.pv]
 rw [hd] at c3
 clear hd HL0
 simp only [FL.p] at WI DI
 simp only [FL.S] at HA
 simp only [] at hij
 go_enter Tryz.func104, Tryz.ntmps104
 go_wp2_with fail
 refine WI.out.mono ?_
 rintro e w' ⟨rfl, rfl⟩
 go_wp2_with fail
 refine DI.out.mono ?_
 rintro e w1 ⟨rfl, q0, rfl⟩
 go_wp2
 have D0 : Hid (Keeps (fun k => k = bf ∨ k = gb ∨ k = ge) w (w.drewN q0)) := (Keeps.refl _ w).drewN q0
 have H0 := Lib.hid (H.out.later ((Keeps.refl None w).drewN q0))
 clear WI DI c0 c1 c2 c3 c4 c5 c6
 go_loopw [7] (fun iv wr => ∃ (j : Nat) (s1 : FS) (af1 : Int), j ≤ K ∧ iv = .int .i64 (8 * j : Nat) ∧ FAt wr B ⟨bf, gb, ge, N, capb, n, af1, pA, pc, pk⟩ s1 ∧ Keeps (fun k => k = bf ∨ k = gb ∨ k = ge) w wr ∧ progW (K - j) s1 (i + 8 * j) (zs.drop (8 * j)) = R ∧ canN ((s1.b.drop (i + 8 * j)).take (8 * (K - j))) (zs.drop (8 * j)) = true ∧ 0 ≤ s1.steps ∧ s1.steps + (K - j : Nat) ≤ 1000000000000) (fun iv _ => 8 * K - (intOf iv).toNat)
 case atStart =>
  refine ⟨0, s, af, Nat.zero_le _, rfl, H0.out, D0.out, by simpa using HR.out, ?_, st1, by have := HK.out; omega⟩
  have := HC.out
  rw [HK.out] at this
  simpa using this
 case round =>
  obtain ⟨j, s1, af1, hjK, rfl, hF, hKp, hpr, hcn, hs1, hs2⟩ := hrel
  obtain ⟨wv, rfl⟩ : ∃ x, x = wr := ⟨_, rfl⟩
  clear H0 D0
  by_cases hlt : j < K
  ·obtain ⟨k, hk⟩ : ∃ k, K - j = k + 1 := ⟨K - j - 1, by omega⟩
   rw [hk] at hpr hcn hs2
   obtain ⟨iv, hiv⟩ : ∃ iv, 8 * j = iv := ⟨_, rfl⟩
   obtain ⟨p, hp⟩ : ∃ p, i + iv = p := ⟨_, rfl⟩
   rw [hiv] at hpr hcn ⊢
   rw [hp] at hpr hcn
   have hm8 : iv + 8 ≤ m := by have := HK.out; omega
   have hpN : p + 8 ≤ N := by omega
   have x1 : decide (iv < m) = true := decide_eq_true (by omega)
   have x2 : decide ((iv : Int) < m) = true := decide_eq_true (by omega)
   have CW := Lib.hid (can_word hcn)
   have HF := Lib.hid hF
   have HKp := Lib.hid hKp
   have y0 := hF.f.cellD 0 _ rfl
   simp only [] at y0
   obtain ⟨bb, bo, hAe, hbb, -⟩ := HB.out.at_ (by omega)
   subst hAe
   have NS1 := HA.out bb bo (by omega) rfl
   have ce : ¬ c = iv := by omega
   have cpe : ¬ capb = p := by omega
   have w1 : IntKind.i64.wrap ((i : Int) + iv) = p := by rw [show (i : Int) + iv = (p : Int) by omega]; exact wrap_nat _ (by omega)
   have w2 : IntKind.i64.wrap ((p : Int) + 8) = p + 8 := IntWalk.i64_in _ (by omega)
   have w3 : IntKind.i64.wrap ((iv : Int) + 8) = iv + 8 := IntWalk.i64_in _ (by omega)
   have w4 : p + 8 - p = 8 := by omega
   have w5 : iv + 8 - iv = 8 := by omega
   have BRK := Lib.hid (fun w' (hh : FAt w' B ⟨bf, gb, ge, N, capb, n, af1, pA, pc, pk⟩ s1) => fbroken_any B _ s1 w' hh ⟨hs1, by omega⟩)
   have BW := Lib.hid (fun w' (hh : Keeps (fun k => k = bf ∨ k = gb ∨ k = ge) w w') => Bs.take (k := 8) ((HB.out.keeps hh (fun b off _ _ e => by cases e; exact NS1)).drop (k := iv) (by omega)) (by omega))
   have HCN := Lib.hid hcn
   have HPR := Lib.hid hpr
   have LEN8 : Hid (((zs.drop iv).take 8).length = 8) := by show ((zs.drop iv).take 8).length = 8; rw [List.length_take, List.length_drop, HML.out]; omega
   have ST := Lib.hid (stepped_steps_le (s := s1) (a := (k : Int)) (b := 1000000000000) hs1 (by omega))
   have E8 : Hid (8 * (j + 1) = iv + 8) := by show 8 * (j + 1) = iv + 8; omega
   have EKj : Hid (K - (j + 1) = k) := by show K - (j + 1) = k; omega
   have EP : Hid (i + (iv + 8) = p + 8) := by show i + (iv + 8) = p + 8; omega
   clear hF hKp hcn hpr hs1 hs2 hiv hp hk
   go_wp2
   obtain ⟨mS, mh⟩ : ∃ S : World → Prop, ∀ w', S w' ↔ (w'.cell? ⟨bf, 0, none⟩ = some (.slice (some ⟨gb, 0, none⟩) N capb)) := ⟨_, fun _ => Iff.rfl⟩
   have mk0 : ∀ x : Memb mS, x.at_.cell? ⟨bf, 0, none⟩ = some (.slice (some ⟨gb, 0, none⟩) N capb) := fun x => ((mh _).1 x.is)
   have mn : Nonempty (Memb mS) := ⟨⟨(wv).drew, (mh _).2 (y0)⟩⟩
   have mH := Lib.hid mh
   clear mh
   refine wp_region_mix [] (InS mS) (by kernel_rfl) (by kernel_rfl) (InS.mk ((mH.out _).2 (y0))) ?_
   refine wpMix_seg 19 (by kernel_rfl) (by decide) ?_
   simp only [tds]
   repeat (go_big_quiet_step (fail))
   refine wpQuiet_nil ?_
   refine wpMix_nil ?_
   clear mk0 mn mH
   rw [w4, w5]
   clear w1 w2 w3 w4 w5 y0
   by_cases h0 : s1.left = 0
   ·have EL : Hid (decide (s1.left = 0) = true) := decide_eq_true h0
    have ER := Lib.hid (progW_cut HPR.out h0)
    have hpk := (HF.out.armed (by omega)).2
    simp only [] at hpk
    have HPK := Lib.hid hpk
    rw [← HPK.out] at ER
    clear h0 hpk HPK
    go_wp2_with fail
    refine (BRK.out _ HF.out.drew).mono ?_
    rintro e w2 ⟨rfl, kb, af2, hf2⟩
    rw [EL.out]
    have y6 := hf2.f.cellD 6 _ rfl
    simp only [] at y6
    have K2 : Hid (Keeps (fun k => k = bf ∨ k = gb ∨ k = ge) w w2) := HKp.out.drew.trans kb (fun _ h => h) (fun _ _ h => .inl h)
    have F2 := Lib.hid hf2
    have C2 : Hid (Bs w2 (some ⟨gb, p, none⟩) 8 (capb - p) ((s1.b.drop p).take 8)) := by have := hf2.cut (i := p) (j := 8) hpN; rwa [FS.stepped_b] at this
    have P2 : Hid (Bs w2 pA pk.length pc pk) := ownBs (show Own w2 B (.slice pA pk.length pc) pk from hf2.p)
    have W2 := Lib.hid (BW.out w2 K2.out)
    clear kb hf2 HF HKp BW BRK
    go_wp2_with fail
    refine (torn_any _ _ _ _ _ _ _ _ _ _ _ _ _ C2.out W2.out P2.out (by omega)).mono ?_
    rintro e w3 ⟨v3, rfl, o3, k3⟩
    obtain ⟨A3, c3, rfl, bs3, -⟩ := o3.shape
    have TL := tornN_len8 (ps := pk) CW.out
    rw [LEN8.out] at TL
    rw [TL] at bs3 ⊢
    have TT : Hid ((tornN ((s1.b.drop p).take 8) ((zs.drop iv).take 8) pk).take 8 = tornN ((s1.b.drop p).take 8) ((zs.drop iv).take 8) pk) := List.take_of_length_le (by omega)
    have B3 := Lib.hid bs3
    have F3 := Lib.hid (F2.out.later k3)
    have K3 : Hid (Keeps (fun k => k = bf ∨ k = gb ∨ k = ge) w w3) := K2.out.trans k3 (fun _ h => h) (fun _ _ h => h.elim)
    clear o3 k3 bs3 TL
    go_wp2_with (with_reducible refine wpList_copy_bs (B := B) (g := gb) (off := p) (n := N) (cap := capb) rfl rfl rfl rfl (by first | (intro _; rfl) | (intro h0; omega)) F3.out.b B3.out (by omega) ?_)
    intro w4 o4 k4
    rw [TT.out] at o4
    have O4 := Lib.hid o4
    have K4 := Lib.hid k4
    clear o4 k4
    go_wp2
    go_ret
    have F4 := F3.out.bytes K4.out O4.out
    rw [FS.stepped_b] at F4
    refine ⟨by rw [ER.out]; rfl, ⟨bf, gb, ge, N, capb, n, af2, pA, pc, pk⟩, ?_, (K3.out.trans K4.out (T := fun k => k = bf ∨ k = gb ∨ k = ge) (fun _ h => h) (fun _ _ h => .inr (.inl h))).mono (fun _ _ h => .inl h), rfl, rfl, fun _ h => .inl h⟩
    rw [ER.out]
    exact F4
   ·have EL : Hid (decide (s1.left = 0) = false) := decide_eq_false h0
    have ER := Lib.hid (progW_go HPR.out h0)
    clear h0
    go_wp2_with fail
    refine (BRK.out _ HF.out.drew).mono ?_
    rintro e w2 ⟨rfl, kb, af2, hf2⟩
    rw [EL.out]
    have K2 : Hid (Keeps (fun k => k = bf ∨ k = gb ∨ k = ge) w w2) := HKp.out.drew.trans kb (fun _ h => h) (fun _ _ h => .inl h)
    have F2 := Lib.hid hf2
    have C2 : Hid (Bs w2 (some ⟨gb, p, none⟩) 8 (capb - p) ((s1.b.drop p).take 8)) := by have := hf2.cut (i := p) (j := 8) hpN; rwa [FS.stepped_b] at this
    have W2 := Lib.hid (BW.out w2 K2.out)
    have BL := Lib.hid HF.out.bl
    clear kb hf2 HF HKp BW BRK
    go_wp2_with fail
    refine (program_any _ _ _ _ _ _ _ _ _ C2.out W2.out (by omega)).mono ?_
    rintro e w3 ⟨v3, rfl, o3, k3⟩
    rw [show progN ((s1.b.drop p).take 8) ((zs.drop iv).take 8) = (zs.drop iv).take 8 from if_pos CW.out] at o3
    obtain ⟨A3, c3, rfl, bs3, -⟩ := o3.shape
    rw [LEN8.out] at bs3 ⊢
    have TT : Hid (((zs.drop iv).take 8).take 8 = (zs.drop iv).take 8) := List.take_of_length_le (by rw [LEN8.out]; exact Nat.le_refl _)
    have B3 := Lib.hid bs3
    have F3 := Lib.hid (F2.out.later k3)
    have K3 : Hid (Keeps (fun k => k = bf ∨ k = gb ∨ k = ge) w w3) := K2.out.trans k3 (fun _ h => h) (fun _ _ h => h.elim)
    clear o3 k3 bs3
    go_wp2_with (with_reducible refine wpList_copy_bs (B := B) (g := gb) (off := p) (n := N) (cap := capb) rfl rfl rfl rfl (by first | (intro _; rfl) | (intro h0; omega)) F3.out.b B3.out (by omega) ?_)
    intro w4 o4 k4
    rw [TT.out, FS.stepped_b] at o4
    have F4 := Lib.hid (F3.out.bytes k4 o4)
    have K4 : Hid (Keeps (fun k => k = bf ∨ k = gb ∨ k = ge) w w4) := K3.out.trans k4 (fun _ h => h) (fun _ _ h => .inr (.inl h))
    clear o4 k4
    go_wp2
    go_roundw
    case rel =>
     refine ⟨j + 1, _, af2, hlt, val_int (by rw [E8.out]; omega), F4.out, K4.out, ?_, ?_, ?_, ?_⟩
     ·rw [EKj.out, E8.out, EP.out, ← ER.out, List.drop_drop]
     ·rw [EKj.out, E8.out, EP.out]
      exact can_rest LEN8.out (by rw [BL.out]; exact hpN) HCN.out
     ·exact ST.out.1
     ·rw [EKj.out]; exact ST.out.2
    case measure => have := E8.out; simp [intOf]; omega
  ·obtain rfl : j = K := by omega
   rw [Nat.sub_self] at hpr
   have ER : Hid (R = (s1, 0)) := hpr.symm
   have HF := Lib.hid hF
   have HKp := Lib.hid hKp
   have x1 : decide (8 * j < m) = false := decide_eq_false (by have := HK.out; omega)
   have x2 : decide (8 * (j : Int) < m) = false := decide_eq_false (by have := HK.out; omega)
   have x3 : decide (((8 * j : Nat) : Int) < m) = false := decide_eq_false (by have := HK.out; omega)
   clear hF hKp hpr hcn hs1 hs2
   go_wp2
   go_ret
   refine ⟨by rw [ER.out]; rfl, ⟨bf, gb, ge, N, capb, n, af1, pA, pc, pk⟩, ?_, HKp.out.mono (fun _ _ h => .inl h), rfl, rfl, fun _ h => .inl h⟩
   rw [ER.out]
   exact HF.out
open Go.RowKit
theorem halfN_len (os ps : List Int) : (halfN os ps).length = os.length := halfTo_length _ _ _
theorem tl77 (P : Prop) (h : P := by
 rw [hd] at c3
 clear hd hel her
 go_enter Tryz.func121, Tryz.ntmps121
 go_wp2
 go_ret
 rw [EG.out]
 exact ⟨rfl, _, HT.out⟩) : P := h
theorem tl76 (P : Prop) (h : P := by
 clear EF
 obtain ⟨bf, gb, ge, N, capb, n, af, pA, pc, pk⟩ := L
 have c0 := h.f.cellD 0 _ rfl
 have c1 := h.f.cellD 1 _ rfl
 have c2 := h.f.cellD 2 _ rfl
 have c3 := h.f.cellD 3 _ rfl
 have c4 := h.f.cellD 4 _ rfl
 have c5 := h.f.cellD 5 _ rfl
 have c6 := h.f.cellD 6 _ rfl
 have hcap := h.bs.le
 have hcmx := h.bs.max
 have hN := h.nN
 have hn0 := h.n0
 have hn9 := h.n9
 have H := Lib.hid h
 simp only [] at c0 c1 c2 c3 c4 c5 c6 hcap hcmx hN hn0 hn9
 have hNb : N ≤ 262144 := by omega
 have hN1 : 1024 ≤ N := by omega
 have HN := Lib.hid hN
 clear h hN
 simp only [FL.p, FL.pv]
 exact tl77 _) : P := h
theorem tl78 (P : Prop) (h : P := by
 go_wp2_with (with_reducible refine wpList_copy_bs (B := B) (g := gb) (off := a) (n := N) (cap := capb) rfl rfl rfl rfl (by first | (intro _; rfl) | (intro h0; omega)) F3.out.b B3.out (by omega) ?_)
 intro w4 o4 k4
 rw [TT.out, EB.out] at o4
 have F4 := F3.out.bytes k4 o4
 have K4 := Lib.hid k4
 have HF4 := Lib.hid F4
 clear o4 k4 F4
 go_wp2
 go_ret
 refine ⟨by rw [ER.out]; rfl, ⟨bf, gb, ge, N, capb, n, af2, pA, pc, pk⟩, ?_, (K3.out.trans K4.out (T := fun k => k = bf ∨ k = gb ∨ k = ge) (fun _ h => h) (fun _ _ h => .inr (.inl h))).mono (fun _ _ h => .inl h), rfl, rfl, fun _ h => .inl h⟩
 rw [ER.out]
 exact HF4.out) : P := h
set_option maxRecDepth 100000 in
set_option maxHeartbeats 800000 in
theorem ferase_any (B : Nat) (L : FL) (s : FS) (k : Int) (w : World) (h : FAt w B L s) (hst : 0 ≤ s.steps ∧ s.steps ≤ 1000000000000) (her : ∀ i, 0 ≤ s.er.getD i 0 ∧ s.er.getD i 0 ≤ 1000000000000) :
    Calls Tryz.prog 121 #[L.p, .int .i64 k] w (ProgTold w B L (s.eraseF k)) := by
 have hel := h.el
 have HT := Lib.hid (Turn.self h)
 have EF : Hid (s.eraseF k = if s.dark = true then (s, 5) else if k < 0 ∨ (L.n : Int) ≤ k then (s, 2)
   else if s.left = 0 then ({ (s.erased k.toNat).stepped with b := splice s.b (1024 * k.toNat) (halfN ((s.b.drop (1024 * k.toNat)).take 1024) s.pick) }, 5)
   else ({ (s.erased k.toNat).stepped with b := splice s.b (1024 * k.toNat) (List.replicate 1024 255) }, 0)) := by
  show s.eraseF k = _
  unfold FS.eraseF; rw [hel]
 cases hd : s.dark with
 | true =>
  rw [hd] at EF
  have EG : Hid (s.eraseF k = (s, 5)) := by show _ = _; rw [EF.out, if_pos rfl]
  exact tl76 _
 | false =>
 rw [hd] at EF
 by_cases q1 : k < 0
 ·have d1 : decide (k < 0) = true := decide_eq_true q1
  have EG : Hid (s.eraseF k = (s, 2)) := by show _ = _; rw [EF.out, if_neg (by decide), if_pos (.inl q1)]
  exact tl76 _
 have d1 : decide (k < 0) = false := decide_eq_false q1
 by_cases q2 : (L.n : Int) ≤ k
 ·have d2 : decide ((L.n : Int) ≤ k) = true := decide_eq_true q2
  have EG : Hid (s.eraseF k = (s, 2)) := by show _ = _; rw [EF.out, if_neg (by decide), if_pos (.inr q2)]
  clear EF
  obtain ⟨bf, gb, ge, N, capb, n, af, pA, pc, pk⟩ := L
  have c0 := h.f.cellD 0 _ rfl
  have c1 := h.f.cellD 1 _ rfl
  have c2 := h.f.cellD 2 _ rfl
  have c3 := h.f.cellD 3 _ rfl
  have c4 := h.f.cellD 4 _ rfl
  have c5 := h.f.cellD 5 _ rfl
  have c6 := h.f.cellD 6 _ rfl
  have hcap := h.bs.le
  have hcmx := h.bs.max
  have hN := h.nN
  have hn0 := h.n0
  have hn9 := h.n9
  have H := Lib.hid h
  simp only [] at c0 c1 c2 c3 c4 c5 c6 hcap hcmx hN hn0 hn9
  have hNb : N ≤ 262144 := by omega
  have hN1 : 1024 ≤ N := by omega
  have HN := Lib.hid hN
  clear h hN
  simp only [FL.p, FL.pv]
  simp only [] at d2 q2
  exact tl77 _
 obtain ⟨i, rfl⟩ : ∃ i : Nat, k = i := ⟨k.toNat, by omega⟩
 have d2 : decide ((L.n : Int) ≤ i) = false := decide_eq_false q2
 have d3 : decide (L.n ≤ i) = false := decide_eq_false (by omega)
 have hi : i < L.n := by omega
 have hc := h.e.cellD i _ (map_getD 0 (by rw [hel]; exact hi))
 have hfz := h.e.frozen i
 have hs8 := her i
 obtain ⟨a, ha⟩ : ∃ a, 1024 * i = a := ⟨_, rfl⟩
 have haN : a + 1024 ≤ L.N := by have := h.nN; omega
 simp only [Int.toNat_natCast] at EF
 rw [ha, if_neg (by decide), if_neg (by omega)] at EF
 obtain ⟨st1, st2⟩ := hst
 have ES := Lib.hid (fun w' (hk : Keeps (fun k => k = L.ge) w w') (he : Blk w' L.ge ((s.er.map (.int .i64)).set i (.int .i64 (s.er.getD i 0 + 1))) 3) => show FAt w' B L (s.erased i) from h.sect hk (by rw [← List.map_set] at he; exact he) (by rw [List.length_set]))
 have BRK := Lib.hid (fun w' (hh : FAt w' B L (s.erased i)) => fbroken_any B L (s.erased i) w' hh ⟨st1, st2⟩)
 have EB : Hid ((s.erased i).stepped.b = s.b) := by show (s.erased i).stepped.b = s.b; rw [FS.stepped_b]; rfl
 have BE := Lib.hid h.e
 have LFT : Hid ((s.erased i).left = s.left) := rfl
 generalize s.er.getD i 0 = x at *
 generalize s.erased i = s1 at *
 clear HT hel her q1 q2
 obtain ⟨bf, gb, ge, N, capb, n, af, pA, pc, pk⟩ := L
 have c0 := h.f.cellD 0 _ rfl
 have c1 := h.f.cellD 1 _ rfl
 have c2 := h.f.cellD 2 _ rfl
 have c3 := h.f.cellD 3 _ rfl
 have c4 := h.f.cellD 4 _ rfl
 have c5 := h.f.cellD 5 _ rfl
 have c6 := h.f.cellD 6 _ rfl
 have hcap := h.bs.le
 have hcmx := h.bs.max
 have hN := h.nN
 have hn0 := h.n0
 have hn9 := h.n9
 have H := Lib.hid h
 simp only [] at c0 c1 c2 c3 c4 c5 c6 hcap hcmx hN hn0 hn9
 have hNb : N ≤ 262144 := by omega
 have hN1 : 1024 ≤ N := by omega
 have HN := Lib.hid hN
 clear h hN
 simp only [FL.p, FL.pv]
 simp only [] at d2 d3 hi hc hfz haN
 rw [hd] at c3
 clear hd
 simp only [FL.p] at BRK
 have f1 : (1024 * (i : Int)) = a := by omega
 have f2 : ((i : Int) * 1024) = a := by omega
 have f3 : (((i : Int) + 1) * 1024) = (a : Int) + 1024 := by omega
 have f4 : ¬ capb = a := by omega
 have f5 : a + 1024 - a = 1024 := by omega
 have f6 : i * 1024 = a := by omega
 have f7 : (i + 1) * 1024 = a + 1024 := by omega
 by_cases h0 : s.left = 0
 ·have EL : Hid (decide (s1.left = 0) = true) := by show decide (s1.left = 0) = true; rw [LFT.out]; exact decide_eq_true h0
  have ER : Hid (s.eraseF i = ({ s1.stepped with b := splice s.b a (halfN ((s.b.drop a).take 1024) s.pick) }, 5)) := by show _ = _; rw [EF.out, if_pos h0]
  have hpk := (H.out.armed (by omega)).2
  simp only [] at hpk
  rw [← hpk] at ER
  clear EF h0 hpk
  go_enter Tryz.func121, Tryz.ntmps121
  go_wp2_with fail
  have KE : Hid (Keeps (fun k => k = ge) w (w.setCell ⟨ge, i, none⟩ (.int .i64 (x + 1)))) := (Keeps.self ge w).put i _
  have F1 := Lib.hid (ES.out _ KE.out (BE.out.set i _))
  refine (BRK.out _ F1.out).mono ?_
  rintro e w2 ⟨rfl, kb, af2, hf2⟩
  rw [EL.out]
  have K2 : Hid (Keeps (fun k => k = bf ∨ k = gb ∨ k = ge) w w2) := KE.out.trans kb (fun _ h => .inr (.inr h)) (fun _ _ h => .inl h)
  have y6 := hf2.f.cellD 6 _ rfl
  simp only [] at y6
  have F2 := Lib.hid hf2
  have C2 : Hid (Bs w2 (some ⟨gb, a, none⟩) 1024 (capb - a) ((s.b.drop a).take 1024)) := by have := hf2.cut (i := a) (j := 1024) haN; rwa [EB.out] at this
  have P2 : Hid (Bs w2 pA pk.length pc pk) := ownBs (show Own w2 B (.slice pA pk.length pc) pk from hf2.p)
  clear kb hf2 KE F1 BRK ES BE
  go_wp2_with fail
  refine (half_any _ _ _ _ _ _ _ _ _ C2.out P2.out (by omega)).mono ?_
  rintro e w3 ⟨v3, rfl, o3, k3⟩
  obtain ⟨A3, c3, rfl, bs3, -⟩ := o3.shape
  have TL := halfN_len ((s.b.drop a).take 1024) pk
  rw [C2.out.len] at TL
  rw [TL] at bs3 ⊢
  have TT : Hid ((halfN ((s.b.drop a).take 1024) pk).take 1024 = halfN ((s.b.drop a).take 1024) pk) := List.take_of_length_le (by omega)
  have B3 := Lib.hid bs3
  have F3 := Lib.hid (F2.out.later k3)
  have K3 : Hid (Keeps (fun k => k = bf ∨ k = gb ∨ k = ge) w w3) := K2.out.trans k3 (fun _ h => h) (fun _ _ h => h.elim)
  clear o3 k3 bs3 TL
  exact tl78 _
 ·have EL : Hid (decide (s1.left = 0) = false) := by show decide (s1.left = 0) = false; rw [LFT.out]; exact decide_eq_false h0
  have ER : Hid (s.eraseF i = ({ s1.stepped with b := splice s.b a (List.replicate 1024 255) }, 0)) := by show _ = _; rw [EF.out, if_neg h0]
  have BL : Hid (∀ w, Calls Tryz.prog 26 #[.int .i64 1024] w (Cloned w (List.replicate 1024 255))) := fun w => blank_any 1024 w
  have BKL : Hid ((List.replicate 1024 (255 : Int)).length = 1024) := List.length_replicate
  generalize List.replicate 1024 (255 : Int) = bk at *
  clear EF h0
  go_enter Tryz.func121, Tryz.ntmps121
  go_wp2_with fail
  have KE : Hid (Keeps (fun k => k = ge) w (w.setCell ⟨ge, i, none⟩ (.int .i64 (x + 1)))) := (Keeps.self ge w).put i _
  have F1 := Lib.hid (ES.out _ KE.out (BE.out.set i _))
  refine (BRK.out _ F1.out).mono ?_
  rintro e w2 ⟨rfl, kb, af2, hf2⟩
  rw [EL.out]
  have K2 : Hid (Keeps (fun k => k = bf ∨ k = gb ∨ k = ge) w w2) := KE.out.trans kb (fun _ h => .inr (.inr h)) (fun _ _ h => .inl h)
  have F2 := Lib.hid hf2
  clear kb hf2 KE F1 BRK ES BE
  go_wp2_with fail
  refine (BL.out _).mono ?_
  rintro e w3 ⟨v3, rfl, o3, k3⟩
  obtain ⟨A3, c3, rfl, bs3, -⟩ := o3.shape
  rw [BKL.out] at bs3 ⊢
  have TT : Hid (bk.take 1024 = bk) := List.take_of_length_le (by rw [BKL.out]; exact Nat.le_refl _)
  have B3 := Lib.hid bs3
  have F3 := Lib.hid (F2.out.later k3)
  have K3 : Hid (Keeps (fun k => k = bf ∨ k = gb ∨ k = ge) w w3) := K2.out.trans k3 (fun _ h => h) (fun _ _ h => h.elim)
  clear o3 k3 bs3
  exact tl78 _
theorem Tryz.infoI3 : (Tryz.prog.info? 3).map (fun i => (i.zero, i.size, i.bytes)) = some (some (.int .i64 0), 1, 8) := by kernel_rfl
def Made (w : World) (n : Int) (e : Ending) (w' : World) : Prop := ∃ L, e = .returned (.pointer (some ⟨L.bf, 0, none⟩)) ∧ FAt w' w.heap.size L (newF n) ∧ L.n = (max 1 (min n 256)).toNat ∧ Keeps None w w'
theorem rep_add (a b : Nat) : List.replicate a (255 : Int) ++ List.replicate b 255 = List.replicate (a + b) 255 := by rw [List.replicate_append_replicate]
theorem tl79 (P : Prop) (h : P := by
 have := Blk.new (w.alloc (.cells (List.replicate n (Value.int .i64 0)).toArray 3)) [.slice none 0 0, .slice (some ⟨w.heap.size, 0, none⟩) n n, .int .i64 0, .bool false, .bool false, .int .i64 0, .slice none 0 0] 70
 rw [e0] at this
 exact this) : P := h
theorem tl80 (P : Prop) (h : P := by
 refine ⟨0, none, 0, Nat.zero_le _, rfl, ?_, ?_, Own.nil _ _, ?_⟩
 ·simpa using BF0.out
 ·simpa using BE0.out
 ·simpa using K0.out) : P := h
set_option maxRecDepth 100000 in
theorem tl81 (P : Prop) (h : P := by
 have E1 : Hid (1024 * j + 1024 = 1024 * (j + 1)) := by show 1024 * j + 1024 = 1024 * (j + 1); omega
 go_wp2
 obtain ⟨mS, mh⟩ : ∃ S : World → Prop, ∀ w', S w' ↔ (w'.cell? ⟨w.heap.size + 1, 0, none⟩ = some (.slice A (1024 * j) c)) := ⟨_, fun _ => Iff.rfl⟩
 have mk0 : ∀ x : Memb mS, x.at_.cell? ⟨w.heap.size + 1, 0, none⟩ = some (.slice A (1024 * j) c) := fun x => ((mh _).1 x.is)
 have mn : Nonempty (Memb mS) := ⟨⟨(wv).drew, (mh _).2 (HBF.out.cellD 0 _ rfl)⟩⟩
 have mH := Lib.hid mh
 clear mh
 refine wp_region_mix [5, 6, 9] (InS mS) (by kernel_rfl) (by kernel_rfl) (InS.mk ((mH.out _).2 (HBF.out.cellD 0 _ rfl))) ?_
 refine wpMix_seg 5 (by kernel_rfl) (by decide) ?_
 simp only [tds]
 repeat (go_big_quiet_step (fail))
 refine wpQuiet_nil ?_
 refine wpMix_eff (by kernel_rfl) ?_
 go_wp2_with fail
 refine (BL.out _).mono ?_
 rintro e w3 ⟨v3, rfl, o3, k3⟩
 obtain ⟨A3, c3, rfl, bs3, -⟩ := o3.shape
 rw [List.length_replicate] at bs3 ⊢
 have B3 := Lib.hid bs3
 have BF3 := Lib.hid (k3.blk HBF.out.drew (fun h => h))
 have BE3 := Lib.hid (k3.blk HBE.out.drew (fun h => h))
 have BO3 := Lib.hid (HBO.out.drew.keeps k3 (fun _ _ h => h))
 have K3 := Lib.hid (HKP.out.drew.trans k3 (T := None) (fun _ h => h) (fun _ _ h => h))
 clear o3 bs3 k3
 go_wp2
 refine MixK.on (InS.mk ((mH.out _).2 (BF3.out.cellD 0 _ rfl))) ?_
 refine wpMix_eff (by kernel_rfl) ?_
 go_wp2_with (at_builtin; refine Hid.out ?_)
 refine Lib.hid ?_
 refine wpList_append_bs BO3.out B3.out (by rw [List.length_replicate]; omega) (Nat.succ_le_of_lt BF3.out.lt) rfl rfl rfl rfl rfl ?_
 intro v4 w4 ho4 hk4
 rw [rep_add, E1.out] at ho4
 obtain ⟨A4, c4, rfl, bs4, -⟩ := ho4.shape
 rw [List.length_replicate] at ho4 ⊢
 have O4 := Lib.hid ho4
 have BF4 := Lib.hid (hk4.blk BF3.out (fun e => BO3.out.notBelow (by omega) e))
 have BE4 := Lib.hid (hk4.blk BE3.out (fun e => BO3.out.notBelow (by omega) e))
 have K4 := Lib.hid (K3.out.trans hk4 (T := None) (fun _ h => h) (fun i hi e => absurd e (BO3.out.notBelow (by omega))))
 clear ho4 hk4 bs4 BF3 BE3 BO3 K3 B3
 have y0 := BF4.out.cellD 0 _ rfl
 have z0 := BF4.out.frozen 0
 go_wp2
 refine MixK.on (InS.mk ((mH.out _).2 (y0))) ?_
 refine wpMix_seg 2 (by kernel_rfl) (by decide) ?_
 simp only [tds]
 repeat (go_big_quiet_step (fail))
 refine wpQuiet_nil ?_
 refine wpMix_eff (by kernel_rfl) ?_
 go_wp2
 refine MixK.last (by kernel_rfl) ?_
 refine wpMix_nil ?_
 clear mk0 mn mH
 have GN : Hid (w.heap.size + 1 < w.heap.size + 2) := Nat.lt_succ_self _
 have O5 := Lib.hid (O4.out.keeps ((Keeps.self (w.heap.size + 1) w4).put 0 (.slice A4 (1024 * (j + 1)) c4)) (fun b e h => O4.out.notBelow (i := b) (by subst h; exact GN.out) e))
 have BE5 := Lib.hid (BE4.out.setOther ⟨w.heap.size + 1, 0, none⟩ (.slice A4 (1024 * (j + 1)) c4) (Nat.ne_of_lt (Nat.lt_succ_self _)))
 have BF5 := Lib.hid (BF4.out.set 0 (.slice A4 (1024 * (j + 1)) c4))
 have K5 := Lib.hid (K4.out.setCell ⟨w.heap.size + 1, 0, none⟩ (.slice A4 (1024 * (j + 1)) c4) (fun h => absurd h (Nat.not_lt.2 (Nat.le_succ _))))
 clear O4 BF4 BE4 K4 y0 z0
 go_wp2
 go_roundw
 case rel => exact ⟨j + 1, A4, c4, hlt, by go_num, BF5.out, BE5.out, O5.out, K5.out⟩
 case measure => simp [intOf]; omega) : P := h
theorem tl82 (P : Prop) (h : P := by
 obtain ⟨gb, rfl, hg1, -, -, hle, hmx, -, -⟩ := HBO.out.at_ (k := 0) (by omega)
 go_wp2
 go_ret
 refine ⟨⟨w.heap.size + 1, gb, w.heap.size, 1024 * j, c, j, 0, none, 0, []⟩, rfl, ?_, HM.out, HKP.out⟩
 rw [HN.out]
 exact ⟨HBF.out, HBO.out.lower (by omega), by simpa using HBE.out, Own.nil _ _, by simp, fun h => absurd h (show ¬ (0 : Int) ≤ -1 by decide), (show (-1 : Int) ≤ -1 by decide), (show (-1 : Int) ≤ 9223372036854775807 by decide), rfl, hn1, hn2, Nat.le_succ _, Nat.le_refl _, by show w.heap.size + 1 ≠ gb; omega, by show w.heap.size + 1 ≠ w.heap.size; omega, by show gb ≠ w.heap.size; omega, fun g hg => by cases hg⟩) : P := h
set_option maxRecDepth 100000 in
set_option maxHeartbeats 800000 in
theorem fnew_low (k : Int) (n : Nat) (w : World) (hn1 : 1 ≤ n) (hn2 : n ≤ 256) (hk : k ≤ 1) (hL : 1 = (n : Int)) (HN : Hid (newF k = { b := List.replicate (1024 * n) 255, er := List.replicate n 0, steps := 0, left := -1, pick := [], dark := false })) (HM : Hid (n = (max 1 (min k 256)).toNat)) : Calls Tryz.prog 5 #[.int .i64 k] w (Made w k) := by
 have hmk := fun w => run_make_blk (P := Tryz.prog) 63 3 (.int .i64 0) 8 Tryz.underlying63 Tryz.infoI3 rfl .i64 .i64 _ _ n hL hL (by omega) (by omega) w
 have BL : Hid (∀ w, Calls Tryz.prog 26 #[.int .i64 1024] w (Cloned w (List.replicate 1024 255))) := fun w => blank_any 1024 w
 have HL := Lib.hid hL
 clear hL
 go_enter Tryz.func5, Tryz.ntmps5
 go_wp2
 have e0 : (w.alloc (.cells (List.replicate n (Value.int .i64 0)).toArray 3)).heap.size = w.heap.size + 1 := by simp
 have BE0 : Hid (Blk ((w.alloc (.cells (List.replicate n (Value.int .i64 0)).toArray 3)).alloc (.cells #[.slice none 0 0, .slice (some ⟨w.heap.size, 0, none⟩) n n, .int .i64 0, .bool false, .bool false, .int .i64 0, .slice none 0 0] 70)) w.heap.size (List.replicate n (.int .i64 0)) 3) := (Blk.new w (List.replicate n (.int .i64 0)) 3).alloc _
 have BF0 : Hid (Blk ((w.alloc (.cells (List.replicate n (Value.int .i64 0)).toArray 3)).alloc (.cells #[.slice none 0 0, .slice (some ⟨w.heap.size, 0, none⟩) n n, .int .i64 0, .bool false, .bool false, .int .i64 0, .slice none 0 0] 70)) (w.heap.size + 1) [.slice none 0 0, .slice (some ⟨w.heap.size, 0, none⟩) n n, .int .i64 0, .bool false, .bool false, .int .i64 0, .slice none 0 0] 70) := by
  exact tl79 _
 have K0 : Hid (Keeps None w ((w.alloc (.cells (List.replicate n (Value.int .i64 0)).toArray 3)).alloc (.cells #[.slice none 0 0, .slice (some ⟨w.heap.size, 0, none⟩) n n, .int .i64 0, .bool false, .bool false, .int .i64 0, .slice none 0 0] 70))) := ((Keeps.refl None w).alloc _).alloc _
 clear e0 hmk
 go_loopw [13] (fun iv wr => ∃ (j : Nat) (A : Option Addr) (c : Nat), j ≤ n ∧ iv = .int .i64 j ∧ Blk wr (w.heap.size + 1) [.slice A (1024 * j) c, .slice (some ⟨w.heap.size, 0, none⟩) n n, .int .i64 0, .bool false, .bool false, .int .i64 0, .slice none 0 0] 70 ∧ Blk wr w.heap.size (List.replicate n (.int .i64 0)) 3 ∧ Own wr (w.heap.size + 2) (.slice A (1024 * j) c) (List.replicate (1024 * j) 255) ∧ Keeps None w wr) (fun iv _ => n - (intOf iv).toNat)
 case atStart =>
  exact tl80 _
 case round =>
  obtain ⟨j, A, c, hj, rfl, hbf, hbe, hbo, hkp⟩ := hrel
  have HBF := Lib.hid hbf
  have HBE := Lib.hid hbe
  have HBO := Lib.hid hbo
  have HKP := Lib.hid hkp
  clear hbf hbe hbo hkp BE0 BF0 K0
  obtain ⟨wv, rfl⟩ : ∃ x, x = wr := ⟨_, rfl⟩
  by_cases hlt : j < n
  ·have x1 : decide (j < n) = true := decide_eq_true hlt
   have x2 : decide ((j : Int) < 1) = true := decide_eq_true (by have := HL.out; omega)
   exact tl81 _
  ·obtain rfl : j = n := by omega
   have x2 : decide ((j : Int) < 1) = false := decide_eq_false (by have := HL.out; omega)
   exact tl82 _
set_option maxRecDepth 100000 in
set_option maxHeartbeats 800000 in
theorem fnew_high (k : Int) (n : Nat) (w : World) (hn1 : 1 ≤ n) (hn2 : n ≤ 256) (hk : 256 < k) (hL : 256 = (n : Int)) (HN : Hid (newF k = { b := List.replicate (1024 * n) 255, er := List.replicate n 0, steps := 0, left := -1, pick := [], dark := false })) (HM : Hid (n = (max 1 (min k 256)).toNat)) : Calls Tryz.prog 5 #[.int .i64 k] w (Made w k) := by
 have hmk := fun w => run_make_blk (P := Tryz.prog) 63 3 (.int .i64 0) 8 Tryz.underlying63 Tryz.infoI3 rfl .i64 .i64 _ _ n hL hL (by omega) (by omega) w
 have BL : Hid (∀ w, Calls Tryz.prog 26 #[.int .i64 1024] w (Cloned w (List.replicate 1024 255))) := fun w => blank_any 1024 w
 have HL := Lib.hid hL
 clear hL
 go_enter Tryz.func5, Tryz.ntmps5
 go_wp2
 have e0 : (w.alloc (.cells (List.replicate n (Value.int .i64 0)).toArray 3)).heap.size = w.heap.size + 1 := by simp
 have BE0 : Hid (Blk ((w.alloc (.cells (List.replicate n (Value.int .i64 0)).toArray 3)).alloc (.cells #[.slice none 0 0, .slice (some ⟨w.heap.size, 0, none⟩) n n, .int .i64 0, .bool false, .bool false, .int .i64 0, .slice none 0 0] 70)) w.heap.size (List.replicate n (.int .i64 0)) 3) := (Blk.new w (List.replicate n (.int .i64 0)) 3).alloc _
 have BF0 : Hid (Blk ((w.alloc (.cells (List.replicate n (Value.int .i64 0)).toArray 3)).alloc (.cells #[.slice none 0 0, .slice (some ⟨w.heap.size, 0, none⟩) n n, .int .i64 0, .bool false, .bool false, .int .i64 0, .slice none 0 0] 70)) (w.heap.size + 1) [.slice none 0 0, .slice (some ⟨w.heap.size, 0, none⟩) n n, .int .i64 0, .bool false, .bool false, .int .i64 0, .slice none 0 0] 70) := by
  exact tl79 _
 have K0 : Hid (Keeps None w ((w.alloc (.cells (List.replicate n (Value.int .i64 0)).toArray 3)).alloc (.cells #[.slice none 0 0, .slice (some ⟨w.heap.size, 0, none⟩) n n, .int .i64 0, .bool false, .bool false, .int .i64 0, .slice none 0 0] 70))) := ((Keeps.refl None w).alloc _).alloc _
 clear e0 hmk
 go_loopw [13] (fun iv wr => ∃ (j : Nat) (A : Option Addr) (c : Nat), j ≤ n ∧ iv = .int .i64 j ∧ Blk wr (w.heap.size + 1) [.slice A (1024 * j) c, .slice (some ⟨w.heap.size, 0, none⟩) n n, .int .i64 0, .bool false, .bool false, .int .i64 0, .slice none 0 0] 70 ∧ Blk wr w.heap.size (List.replicate n (.int .i64 0)) 3 ∧ Own wr (w.heap.size + 2) (.slice A (1024 * j) c) (List.replicate (1024 * j) 255) ∧ Keeps None w wr) (fun iv _ => n - (intOf iv).toNat)
 case atStart =>
  exact tl80 _
 case round =>
  obtain ⟨j, A, c, hj, rfl, hbf, hbe, hbo, hkp⟩ := hrel
  have HBF := Lib.hid hbf
  have HBE := Lib.hid hbe
  have HBO := Lib.hid hbo
  have HKP := Lib.hid hkp
  clear hbf hbe hbo hkp BE0 BF0 K0
  obtain ⟨wv, rfl⟩ : ∃ x, x = wr := ⟨_, rfl⟩
  by_cases hlt : j < n
  ·have x1 : decide (j < n) = true := decide_eq_true hlt
   have x2 : decide ((j : Int) < 256) = true := decide_eq_true (by have := HL.out; omega)
   exact tl81 _
  ·obtain rfl : j = n := by omega
   have x2 : decide ((j : Int) < 256) = false := decide_eq_false (by have := HL.out; omega)
   exact tl82 _
set_option maxRecDepth 100000 in
set_option maxHeartbeats 800000 in
theorem fnew_mid (k : Int) (n : Nat) (w : World) (hn1 : 1 ≤ n) (hn2 : n ≤ 256) (hk : 1 < k ∧ k ≤ 256) (hL : k = (n : Int)) (HN : Hid (newF k = { b := List.replicate (1024 * n) 255, er := List.replicate n 0, steps := 0, left := -1, pick := [], dark := false })) (HM : Hid (n = (max 1 (min k 256)).toNat)) : Calls Tryz.prog 5 #[.int .i64 k] w (Made w k) := by
 have hmk := fun w => run_make_blk (P := Tryz.prog) 63 3 (.int .i64 0) 8 Tryz.underlying63 Tryz.infoI3 rfl .i64 .i64 _ _ n hL hL (by omega) (by omega) w
 have BL : Hid (∀ w, Calls Tryz.prog 26 #[.int .i64 1024] w (Cloned w (List.replicate 1024 255))) := fun w => blank_any 1024 w
 have HL := Lib.hid hL
 clear hL
 go_enter Tryz.func5, Tryz.ntmps5
 go_wp2
 have e0 : (w.alloc (.cells (List.replicate n (Value.int .i64 0)).toArray 3)).heap.size = w.heap.size + 1 := by simp
 have BE0 : Hid (Blk ((w.alloc (.cells (List.replicate n (Value.int .i64 0)).toArray 3)).alloc (.cells #[.slice none 0 0, .slice (some ⟨w.heap.size, 0, none⟩) n n, .int .i64 0, .bool false, .bool false, .int .i64 0, .slice none 0 0] 70)) w.heap.size (List.replicate n (.int .i64 0)) 3) := (Blk.new w (List.replicate n (.int .i64 0)) 3).alloc _
 have BF0 : Hid (Blk ((w.alloc (.cells (List.replicate n (Value.int .i64 0)).toArray 3)).alloc (.cells #[.slice none 0 0, .slice (some ⟨w.heap.size, 0, none⟩) n n, .int .i64 0, .bool false, .bool false, .int .i64 0, .slice none 0 0] 70)) (w.heap.size + 1) [.slice none 0 0, .slice (some ⟨w.heap.size, 0, none⟩) n n, .int .i64 0, .bool false, .bool false, .int .i64 0, .slice none 0 0] 70) := by
  exact tl79 _
 have K0 : Hid (Keeps None w ((w.alloc (.cells (List.replicate n (Value.int .i64 0)).toArray 3)).alloc (.cells #[.slice none 0 0, .slice (some ⟨w.heap.size, 0, none⟩) n n, .int .i64 0, .bool false, .bool false, .int .i64 0, .slice none 0 0] 70))) := ((Keeps.refl None w).alloc _).alloc _
 clear e0 hmk
 go_loopw [13] (fun iv wr => ∃ (j : Nat) (A : Option Addr) (c : Nat), j ≤ n ∧ iv = .int .i64 j ∧ Blk wr (w.heap.size + 1) [.slice A (1024 * j) c, .slice (some ⟨w.heap.size, 0, none⟩) n n, .int .i64 0, .bool false, .bool false, .int .i64 0, .slice none 0 0] 70 ∧ Blk wr w.heap.size (List.replicate n (.int .i64 0)) 3 ∧ Own wr (w.heap.size + 2) (.slice A (1024 * j) c) (List.replicate (1024 * j) 255) ∧ Keeps None w wr) (fun iv _ => n - (intOf iv).toNat)
 case atStart =>
  exact tl80 _
 case round =>
  obtain ⟨j, A, c, hj, rfl, hbf, hbe, hbo, hkp⟩ := hrel
  have HBF := Lib.hid hbf
  have HBE := Lib.hid hbe
  have HBO := Lib.hid hbo
  have HKP := Lib.hid hkp
  clear hbf hbe hbo hkp BE0 BF0 K0
  obtain ⟨wv, rfl⟩ : ∃ x, x = wr := ⟨_, rfl⟩
  by_cases hlt : j < n
  ·have x1 : decide (j < n) = true := decide_eq_true hlt
   have x2 : decide ((j : Int) < k) = true := decide_eq_true (by have := HL.out; omega)
   exact tl81 _
  ·obtain rfl : j = n := by omega
   have x2 : decide ((j : Int) < k) = false := decide_eq_false (by have := HL.out; omega)
   exact tl82 _
theorem fnew_any (k : Int) (w : World) : Calls Tryz.prog 5 #[.int .i64 k] w (Made w k) := by
 have HN : ∀ n : Nat, (max 1 (min k 256)).toNat = n → Hid (newF k = { b := List.replicate (1024 * n) 255, er := List.replicate n 0, steps := 0, left := -1, pick := [], dark := false }) := fun n hn => by
  show newF k = _
  unfold newF; rw [hn]
 by_cases h1 : k ≤ 1
 ·have e : (max 1 (min k 256)).toNat = 1 := by omega
  exact fnew_low k 1 w (by decide) (by decide) h1 rfl (HN 1 e) e.symm
 ·by_cases h2 : 256 < k
  ·have e : (max 1 (min k 256)).toNat = 256 := by omega
   exact fnew_high k 256 w (by decide) (by decide) h2 rfl (HN 256 e) e.symm
  ·have e : (max 1 (min k 256)).toNat = k.toNat := by omega
   exact fnew_mid k k.toNat w (by omega) (by omega) ⟨by omega, by omega⟩ (by omega) (HN _ e) e.symm
open Go.RowKit
theorem splice_splice (L X Y : List Int) (p : Nat) (h : p + X.length + Y.length ≤ L.length) : splice (splice L p X) (p + X.length) Y = splice L p (X ++ Y) := by
 simp only [splice]
 have h1 : (L.take p ++ (X ++ L.drop (p + X.length))).take (p + X.length) = L.take p ++ X := by
  rw [← List.append_assoc, List.take_append_of_le_length (by rw [List.length_append, List.length_take]; omega), List.take_of_length_le (by rw [List.length_append, List.length_take]; omega)]
 have h2 : (L.take p ++ (X ++ L.drop (p + X.length))).drop (p + X.length + Y.length) = L.drop (p + X.length + Y.length) := by
  have e := splice_drop L p (p + X.length + Y.length) X (by omega) (by omega)
  simpa [splice] using e
 rw [h1, h2, List.length_append, ← Nat.add_assoc, List.append_assoc, List.append_assoc]
theorem splice_empty (L : List Int) (p : Nat) : splice L p [] = L := splice_nil L p
theorem andNot255 : ∀ n : Fin 256, bits .andNot .u8 (n : Int) 255 = 0 := by decide +kernel
theorem canN_ff (ns : List Int) (hb : ∀ z ∈ ns, 0 ≤ z ∧ z ≤ 255) : canN (List.replicate ns.length 255) ns = true := by
 simp only [canN, decide_eq_true_eq, List.length_replicate, true_and]
 intro i hi
 have h1 := byte_getD hb i
 have h2 : (List.replicate ns.length (255 : Int)).getD i 0 = 255 := by simp [List.getD, hi]
 rw [h2]
 have := andNot255 ⟨(ns.getD i 0).toNat, by omega⟩
 simp only at this
 rwa [Int.toNat_of_nonneg h1.1] at this
theorem Turn.next {W w w' : World} {B : Nat} {L L' : FL} {s s' : FS} (t : Turn w w' B L L' s') (h : FAt w B L s) (hk : Keeps None W w) (hB : W.heap.size ≤ B) : Keeps None W w' :=
  hk.trans t.keeps (fun _ h => h) (fun i hi e => by have := h.low i e; omega)
theorem bsNil (w : World) : Bs w none 0 0 [] := ownBs (Own.nil w 0)
structure LF (W w : World) (B q : Nat) (L : FL) (s : FS) : Prop where
  at_ : FAt w B L s
  keeps : Keeps None W w
  le : W.heap.size ≤ B
  q : L.bf = q
theorem LF.later {W w w' : World} {B q : Nat} {L : FL} {s : FS} (h : LF W w B q L s) (hk : Keeps None w w') : LF W w' B q L s := ⟨h.at_.later hk, h.keeps.trans hk (fun _ h => h) (fun _ _ h => h), h.le, h.q⟩
theorem LF.alloc {W w : World} {B q : Nat} {L : FL} {s : FS} (h : LF W w B q L s) (o : Obj) : LF W (w.alloc o) B q L s := h.later ((Keeps.refl None w).alloc o)
theorem LF.turn {W w w' : World} {B q : Nat} {L L' : FL} {s s' : FS} (h : LF W w B q L s) (t : Turn w w' B L L' s') : LF W w' B q L' s' := ⟨t.at_, t.next h.at_ h.keeps h.le, h.le, t.bf.trans h.q⟩
def LDone (W w : World) (B q : Nat) (L : FL) (s' : FS) (e : Ending) (w' : World) : Prop := e = .returned (.tuple #[]) ∧ ∃ L', LF W w' B q L' s' ∧ Turn w w' B L L' s'
section
variable {W w : World} {B q : Nat} {L : FL} {s : FS}
theorem larm (h : LF W w B q L s) {A : Option Addr} {m c : Nat} {ps : List Int} (hb : Bs w A m c ps) (hm : m ≤ 140737488355328) (after : Int) (hx : after ≤ 9223372036854775807) : Calls Tryz.prog 17 #[.pointer (some ⟨q, 0, none⟩), .int .i64 after, .slice A m c] w (LDone W w B q L (s.armF after ps)) := by
 have := farm_any B L s after A m c ps w h.at_ hx hb hm
 rw [FL.p, h.q] at this
 exact this.mono fun e w' ⟨h1, L', t⟩ => ⟨h1, L', h.turn t, t⟩
theorem lboot (h : LF W w B q L s) : Calls Tryz.prog 19 #[.pointer (some ⟨q, 0, none⟩)] w (LDone W w B q L s.bootF) := by
 have := fboot_any B L s w h.at_
 rw [FL.p, h.q] at this
 exact this.mono fun e w' ⟨h1, L', t⟩ => ⟨h1, L', h.turn t, t⟩
theorem lpeek (h : LF W w B q L s) (a m : Int) : Calls Tryz.prog 24 #[.pointer (some ⟨q, 0, none⟩), .int .i64 a, .int .i64 m] w (Cloned w (s.peekF a m)) := by
 have := fpeek_any B L s a m w h.at_
 rwa [FL.p, h.q] at this
theorem lsteps (h : LF W w B q L s) : Calls Tryz.prog 23 #[.pointer (some ⟨q, 0, none⟩)] w (Same (.int .i64 s.steps) w) := by
 have := fsteps_any B L s w h.at_
 rwa [FL.p, h.q] at this
end
theorem lnew {W w : World} (hk : Keeps None W w) (n : Int) : Calls Tryz.prog 5 #[.int .i64 n] w fun e w' => ∃ q L, e = .returned (.pointer (some ⟨q, 0, none⟩)) ∧ LF W w' w.heap.size q L (newF n) :=
  (fnew_any n w).mono fun e w' ⟨L, h1, h2, _, h4⟩ => ⟨L.bf, L, h1, h2, hk.trans h4 (fun _ h => h) (fun _ _ h => h), hk.size, rfl⟩
open Go.RowKit
def Pure (v : Value) (w : World) (e : Ending) (w' : World) : Prop := e = .returned v ∧ Keeps None w w'
def mayF (d : Bool) (a m size : Int) : Int := if d = true then 5 else if withinB a m size = true then 0 else 2
def FS.gread (s : FS) (first count : Nat) (a m : Int) : List Int × Int := if s.dark = true then ([], 5) else if withinB a m (1024 * count : Nat) = true then s.readF (1024 * first + a) m else ([], 2)
def FS.gprog (s : FS) (first count : Nat) (a : Int) (zs : List Int) : FS × Int := if s.dark = true then (s, 5) else if withinB a zs.length (1024 * count : Nat) = true then s.progF (1024 * first + a) zs else (s, 2)
def sectF (d : Bool) (k : Int) (count : Nat) : Int := if d = true then 5 else if k < 0 ∨ (count : Int) ≤ k then 2 else 0
def FS.gerase (s : FS) (first count : Nat) (k : Int) : FS × Int := if s.dark = true then (s, 5) else if k < 0 ∨ (count : Int) ≤ k then (s, 2) else s.eraseF (first + k)
def FS.gblank (s : FS) (first count : Nat) (k : Int) : Bool × Int := if s.dark = true then (false, 5) else if k < 0 ∨ (count : Int) ≤ k then (false, 2) else (blankB ((s.b.drop (1024 * (first + k.toNat))).take 1024), 0)
def someB (first count n : Int) : Bool := decide (1 ≤ count ∧ 0 ≤ first ∧ first ≤ n ∧ count ≤ n - first)
def rg0 : Value := .agg #[.pointer none, .int .i64 0, .int .i64 0]
theorem Turn.from {w w1 w' : World} {B : Nat} {L L' : FL} {s' : FS} (k : Keeps None w w1) (t : Turn w1 w' B L L' s') : Turn w w' B L L' s' :=
  ⟨t.at_, k.trans t.keeps (fun _ h => h.elim) (fun _ _ h => h), t.bf, t.n, fun b hb => by
    rcases t.o b hb with h | h
    · exact .inl h
    · exact .inr (Nat.le_trans k.size h)⟩
theorem Turn.still {w w1 : World} {B : Nat} {L : FL} {s : FS} (h : FAt w B L s) (k : Keeps None w w1) : Turn w w1 B L L s := ⟨h.later k, k.mono (fun _ _ h => h.elim), rfl, rfl, fun _ h => .inl h⟩
set_option maxRecDepth 100000 in
theorem gsome_any (first count n : Int) (hn : 0 ≤ n ∧ n ≤ 1000000) (w : World) : Calls Tryz.prog 52 #[.int .i64 first, .int .i64 count, .int .i64 n] w (Same (.bool (someB first count n)) w) := by
 have WI : Hid (someB first count n = (decide (1 ≤ count) && decide (0 ≤ first) && decide (first ≤ n) && decide (count ≤ n - first))) := by
  show someB first count n = _
  unfold someB
  by_cases q1 : 1 ≤ count <;> by_cases q2 : 0 ≤ first <;> by_cases q3 : first ≤ n <;> by_cases q4 : count ≤ n - first <;> simp [q1, q2, q3, q4]
 by_cases q1 : 1 ≤ count
 ·have e1 : decide (1 ≤ count) = true := decide_eq_true q1
  by_cases q2 : 0 ≤ first
  ·have e2 : decide (0 ≤ first) = true := decide_eq_true q2
   by_cases q3 : first ≤ n
   ·have e3 : decide (first ≤ n) = true := decide_eq_true q3
    rw [e1, e2, e3] at WI
    have hn1 : -9223372036854775808 ≤ n - first := by omega
    have hn2 : n - first ≤ 9223372036854775807 := by omega
    go_enter Tryz.func52, Tryz.ntmps52
    go_wp2
    go_ret
    exact ⟨ret_bool (by rw [WI.out]; simp), rfl⟩
   ·have e3 : decide (first ≤ n) = false := decide_eq_false q3
    rw [e1, e2, e3] at WI
    go_enter Tryz.func52, Tryz.ntmps52
    go_wp2
    go_ret
    exact ⟨ret_bool (by rw [WI.out]; simp), rfl⟩
  ·have e2 : decide (0 ≤ first) = false := decide_eq_false q2
   rw [e1, e2] at WI
   go_enter Tryz.func52, Tryz.ntmps52
   go_wp2
   go_ret
   exact ⟨ret_bool (by rw [WI.out]; simp), rfl⟩
 ·have e1 : decide (1 ≤ count) = false := decide_eq_false q1
  rw [e1] at WI
  go_enter Tryz.func52, Tryz.ntmps52
  go_wp2
  go_ret
  exact ⟨ret_bool (by rw [WI.out]; simp), rfl⟩
set_option maxRecDepth 100000 in
theorem gsize_any (p : Option Addr) (first : Int) (count : Nat) (hc : count ≤ 1000000) (w : World) : Calls Tryz.prog 74 #[.agg #[.pointer p, .int .i64 first, .int .i64 count]] w (Pure (.int .i64 (1024 * count : Nat)) w) := by
 have k0 : Keeps None w (w.alloc (.cells #[.pointer p, .int .i64 first, .int .i64 count] 80)) := (Keeps.refl None w).alloc _
 have hm : ((count : Int) * 1024) = ((1024 * count : Nat) : Int) := by omega
 go_enter Tryz.func74, Tryz.ntmps74
 go_wp2
 go_ret
 exact ⟨ret_int (by omega), k0⟩
theorem gbase_any (p : Option Addr) (first : Nat) (count : Int) (hc : first ≤ 1000000) (w : World) : Calls Tryz.prog 98 #[.agg #[.pointer p, .int .i64 first, .int .i64 count]] w (Pure (.int .i64 (1024 * first : Nat)) w) := by
 have k0 : Keeps None w (w.alloc (.cells #[.pointer p, .int .i64 first, .int .i64 count] 80)) := (Keeps.refl None w).alloc _
 go_enter Tryz.func98, Tryz.ntmps98
 go_wp2
 go_ret
 exact ⟨ret_int (by omega), k0⟩
theorem tl84 (P : Prop) (h : P := by
 go_wp2_with fail
 refine (OFF.out _ H0.out).mono ?_
 rintro e w' ⟨rfl, rfl⟩
 go_wp2
 go_ret
 exact ⟨ret_int WI.out.symm, K0.out⟩) : P := h
theorem tl83 (P : Prop) (h : P := by
 go_enter Tryz.func96, Tryz.ntmps96
 exact tl84 _) : P := h
theorem tl85 (P : Prop) (h : P := by
 have WI : Hid (mayF false a m sz = 2) := by show _ = _; rw [WI0.out, if_neg]; unfold withinB; rw [decide_eq_false (by omega)]; decide
 clear WI0
 exact tl83 _) : P := h
set_option maxRecDepth 100000 in
theorem gmay_any (B : Nat) (L : FL) (s : FS) (q first count : Nat) (a m : Int) (w : World) (h : FAt w B L s) (hq : L.bf = q) (hc : count ≤ 1000000) : Calls Tryz.prog 96 #[.agg #[.pointer (some ⟨q, 0, none⟩), .int .i64 first, .int .i64 count], .int .i64 a, .int .i64 m] w (Pure (.int .i64 (mayF s.dark a m (1024 * count : Nat))) w) := by
 have OFF := Lib.hid (fun w' (hh : FAt w' B L s) => foff_any B L s w' hh)
 simp only [FL.p, hq] at OFF
 obtain ⟨sz, hsz⟩ : ∃ sz : Nat, 1024 * count = sz := ⟨_, rfl⟩
 have szb : sz ≤ 1024000000 := by omega
 have GS := Lib.hid (fun p f w => gsize_any p f count hc w)
 rw [hsz] at GS ⊢
 clear hsz
 have k0 : Keeps None w (w.alloc (.cells #[.pointer (some ⟨q, 0, none⟩), .int .i64 first, .int .i64 count] 80)) := (Keeps.refl None w).alloc _
 have bx : Blk (w.alloc (.cells #[.pointer (some ⟨q, 0, none⟩), .int .i64 first, .int .i64 count] 80)) w.heap.size [.pointer (some ⟨q, 0, none⟩), .int .i64 first, .int .i64 count] 80 := Blk.new w [.pointer (some ⟨q, 0, none⟩), .int .i64 first, .int .i64 count] 80
 have K0 := Lib.hid k0
 have BX := Lib.hid bx
 clear k0 bx
 have H0 := Lib.hid (h.later K0.out)
 clear h
 cases hd : s.dark with
 | true =>
  rw [hd] at OFF
  have WI : Hid (mayF true a m sz = 5) := rfl
  clear hd
  exact tl83 _
 | false =>
  rw [hd] at OFF
  have WI0 : Hid (mayF false a m sz = if withinB a m sz = true then 0 else 2) := if_neg (by decide)
  clear hd
  by_cases q1 : a < 0
  ·have d1 : decide (a < 0) = true := decide_eq_true q1
   exact tl85 _
  have d1 : decide (a < 0) = false := decide_eq_false q1
  by_cases q2 : m < 0
  ·have d2 : decide (m < 0) = true := decide_eq_true q2
   exact tl85 _
  have d2 : decide (m < 0) = false := decide_eq_false q2
  by_cases q3 : (sz : Int) < a
  ·have d3 : decide ((sz : Int) < a) = true := decide_eq_true q3
   have WI : Hid (mayF false a m sz = 2) := by show _ = _; rw [WI0.out, if_neg]; unfold withinB; rw [decide_eq_false (by omega)]; decide
   clear WI0
   go_enter Tryz.func96, Tryz.ntmps96
   go_wp2_with fail
   refine (OFF.out _ H0.out).mono ?_
   rintro e w' ⟨rfl, rfl⟩
   go_wp2_with fail
   refine (GS.out _ _ _).mono ?_
   rintro e w2 ⟨rfl, k2⟩
   have K2 := Lib.hid (K0.out.trans k2 (T := None) (fun _ h => h) (fun _ _ h => h))
   clear k2
   go_wp2
   go_ret
   exact ⟨ret_int WI.out.symm, K2.out⟩
  have d3 : decide ((sz : Int) < a) = false := decide_eq_false q3
  have n1 : -9223372036854775808 ≤ (sz : Int) - a := by omega
  have n2 : (sz : Int) - a ≤ 9223372036854775807 := by omega
  obtain ⟨b4, hb4⟩ : ∃ b, decide ((sz : Int) - a < m) = b := ⟨_, rfl⟩
  have WI : Hid (mayF false a m sz = if b4 = true then 2 else 0) := by
   show _ = _
   rw [WI0.out, ← hb4]
   by_cases q4 : (sz : Int) - a < m
   ·rw [if_neg, if_pos (decide_eq_true q4)]; unfold withinB; rw [decide_eq_false (by omega)]; decide
   ·rw [if_pos, if_neg]
    ·rw [decide_eq_false q4]; decide
    ·exact decide_eq_true ⟨by omega, by omega, by omega, by omega⟩
  clear WI0
  go_enter Tryz.func96, Tryz.ntmps96
  go_wp2_with fail
  refine (OFF.out _ H0.out).mono ?_
  rintro e w' ⟨rfl, rfl⟩
  go_wp2_with fail
  refine (GS.out _ _ _).mono ?_
  rintro e w2 ⟨rfl, k2⟩
  have K2 := Lib.hid (K0.out.trans k2 (T := None) (fun _ h => h) (fun _ _ h => h))
  have B2 := Lib.hid (k2.blk BX.out (fun h => h))
  have c20 := B2.out.cellD 0 _ rfl
  have c21 := B2.out.cellD 1 _ rfl
  have c22 := B2.out.cellD 2 _ rfl
  clear k2
  go_wp2_with fail
  refine (GS.out _ _ _).mono ?_
  rintro e w3 ⟨rfl, k3⟩
  have K3 := Lib.hid (K2.out.trans k3 (T := None) (fun _ h => h) (fun _ _ h => h))
  have B3 := Lib.hid (k3.blk B2.out (fun h => h))
  have c30 := B3.out.cellD 0 _ rfl
  have c31 := B3.out.cellD 1 _ rfl
  have c32 := B3.out.cellD 2 _ rfl
  clear k3 c20 c21 c22
  cases b4
  ·go_wp2
   go_ret
   exact ⟨ret_int (by rw [WI.out]; rfl), K3.out⟩
  ·go_wp2
   go_ret
   exact ⟨ret_int (by rw [WI.out]; rfl), K3.out⟩
set_option maxRecDepth 100000 in
theorem gread_any (B : Nat) (L : FL) (s : FS) (q first count : Nat) (a m : Int) (w : World) (h : FAt w B L s) (hq : L.bf = q) (hf : first + count ≤ 256) : Calls Tryz.prog 75 #[.agg #[.pointer (some ⟨q, 0, none⟩), .int .i64 first, .int .i64 count], .int .i64 a, .int .i64 m] w (ReadTold w (s.gread first count a m)) := by
 have MAY := Lib.hid (fun w' (hh : FAt w' B L s) => gmay_any B L s q first count a m w' hh hq (by omega))
 have RD := Lib.hid (fun w' a (hh : FAt w' B L s) => fread_any B L s a m w' hh)
 simp only [FL.p, hq] at RD
 have GR : Hid (s.gread first count a m = if s.dark = true then ([], 5) else if withinB a m (1024 * count : Nat) = true then s.readF (1024 * first + a) m else ([], 2)) := rfl
 have k0 : Keeps None w (w.alloc (.cells #[.pointer (some ⟨q, 0, none⟩), .int .i64 first, .int .i64 count] 80)) := (Keeps.refl None w).alloc _
 have bx : Blk (w.alloc (.cells #[.pointer (some ⟨q, 0, none⟩), .int .i64 first, .int .i64 count] 80)) w.heap.size [.pointer (some ⟨q, 0, none⟩), .int .i64 first, .int .i64 count] 80 := Blk.new w [.pointer (some ⟨q, 0, none⟩), .int .i64 first, .int .i64 count] 80
 have K0 := Lib.hid k0
 have BX := Lib.hid bx
 clear k0 bx
 have H0 := Lib.hid (h.later K0.out)
 clear h
 have gen : ∀ er : Int, er ≠ 0 → mayF s.dark a m (1024 * count : Nat) = er → s.gread first count a m = ([], er) → Calls Tryz.prog 75 #[.agg #[.pointer (some ⟨q, 0, none⟩), .int .i64 first, .int .i64 count], .int .i64 a, .int .i64 m] w (ReadTold w (s.gread first count a m)) := by
  intro er h0 hm hg
  have e1 : (er != 0) = true := by simp [h0]
  have HG := Lib.hid hg
  rw [hm] at MAY
  clear hm hg h0
  go_enter Tryz.func75, Tryz.ntmps75
  go_wp2_with fail
  refine (MAY.out _ H0.out).mono ?_
  rintro e w1 ⟨rfl, k1⟩
  have K1 := Lib.hid (K0.out.trans k1 (T := None) (fun _ h => h) (fun _ _ h => h))
  clear k1
  go_wp2
  go_ret2
  rw [HG.out]
  exact ⟨_, rfl, Own.nil _ _, K1.out⟩
 cases hd : s.dark with
 | true => exact gen 5 (by decide) (by rw [hd]; rfl) (by rw [GR.out, if_pos hd])
 | false =>
  cases hw : withinB a m (1024 * count : Nat) with
  | false => exact gen 2 (by decide) (by rw [hd]; unfold mayF; rw [if_neg (by decide), if_neg (by rw [hw]; decide)]) (by rw [GR.out, if_neg (by rw [hd]; decide), if_neg (by rw [hw]; decide)])
  | true =>
   have hg : s.gread first count a m = s.readF (1024 * first + a) m := by rw [GR.out, if_neg (by rw [hd]; decide), if_pos hw]
   have hm : mayF s.dark a m (1024 * count : Nat) = 0 := by rw [hd]; unfold mayF; rw [if_neg (by decide), if_pos hw]
   obtain ⟨i, j, rfl, rfl, hij⟩ := within_nat hw
   rw [hg]
   rw [hm] at MAY
   have BS := Lib.hid (fun w => gbase_any (some ⟨q, 0, none⟩) first count (by omega) w)
   obtain ⟨bs, hbs⟩ : ∃ b : Nat, 1024 * first = b := ⟨_, rfl⟩
   obtain ⟨p, hp⟩ : ∃ p : Nat, bs + i = p := ⟨_, rfl⟩
   have e1 : (1024 * (first : Int) + i) = (p : Int) := by omega
   rw [e1]
   rw [hbs] at BS
   have w1 : IntKind.i64.wrap ((bs : Int) + i) = p := by rw [show (bs : Int) + i = (p : Int) by omega]; exact wrap_nat _ (by omega)
   have RDp := Lib.hid (fun w' (hh : FAt w' B L s) => RD.out w' p hh)
   generalize s.readF p j = r at *
   clear gen GR hg hm hw hd RD hbs hp e1
   go_enter Tryz.func75, Tryz.ntmps75
   go_wp2_with fail
   refine (MAY.out _ H0.out).mono ?_
   rintro e w1' ⟨rfl, k1⟩
   have K1 := Lib.hid (K0.out.trans k1 (T := None) (fun _ h => h) (fun _ _ h => h))
   have B1 := Lib.hid (k1.blk BX.out (fun h => h))
   have H1 := Lib.hid (H0.out.later k1)
   clear k1
   go_wp2
   obtain ⟨mS, mh⟩ : ∃ S : World → Prop, ∀ w', S w' ↔ (w'.cell? ⟨w.heap.size, 0, none⟩ = some (.pointer (some ⟨q, 0, none⟩)) ∧ w'.cell? ⟨w.heap.size, 1, none⟩ = some (.int .i64 first) ∧ w'.cell? ⟨w.heap.size, 2, none⟩ = some (.int .i64 count)) := ⟨_, fun _ => Iff.rfl⟩
   have mk0 : ∀ x : Memb mS, x.at_.cell? ⟨w.heap.size, 0, none⟩ = some (.pointer (some ⟨q, 0, none⟩)) := fun x => ((mh _).1 x.is).1
   have mk1 : ∀ x : Memb mS, x.at_.cell? ⟨w.heap.size, 1, none⟩ = some (.int .i64 first) := fun x => ((mh _).1 x.is).2.1
   have mk2 : ∀ x : Memb mS, x.at_.cell? ⟨w.heap.size, 2, none⟩ = some (.int .i64 count) := fun x => ((mh _).1 x.is).2.2
   have mn : Nonempty (Memb mS) := ⟨⟨(w1').drew, (mh _).2 ⟨B1.out.cellD 0 _ rfl, B1.out.cellD 1 _ rfl, B1.out.cellD 2 _ rfl⟩⟩⟩
   have mH := Lib.hid mh
   clear mh
   refine wp_region_mix [3, 7] (InS mS) (by kernel_rfl) (by kernel_rfl) (InS.mk ((mH.out _).2 ⟨B1.out.cellD 0 _ rfl, B1.out.cellD 1 _ rfl, B1.out.cellD 2 _ rfl⟩)) ?_
   refine wpMix_seg 3 (by kernel_rfl) (by decide) ?_
   simp only [tds]
   repeat (go_big_quiet_step (fail))
   refine wpQuiet_nil ?_
   refine wpMix_eff (by kernel_rfl) ?_
   go_wp2_with fail
   refine (BS.out _).mono ?_
   rintro e w2 ⟨rfl, k2⟩
   have K2 := Lib.hid (K1.out.drew.trans k2 (T := None) (fun _ h => h) (fun _ _ h => h))
   have B2 := Lib.hid (k2.blk B1.out.drew (fun h => h))
   have H2 := Lib.hid (H1.out.drew.later k2)
   clear k2
   go_wp2
   refine MixK.on (InS.mk ((mH.out _).2 (⟨B2.out.cellD 0 _ rfl, B2.out.cellD 1 _ rfl, B2.out.cellD 2 _ rfl⟩))) ?_
   refine wpMix_seg 3 (by kernel_rfl) (by decide) ?_
   simp only [tds]
   repeat (go_big_quiet_step (fail))
   refine wpQuiet_nil ?_
   refine wpMix_eff (by kernel_rfl) ?_
   go_wp2_with fail
   refine (RDp.out _ H2.out).mono ?_
   rintro e w3 ⟨v3, rfl, o3, k3⟩
   have K3 := Lib.hid (K2.out.trans k3 (T := None) (fun _ h => h) (fun _ _ h => h))
   have B3 := Lib.hid (k3.blk B2.out (fun h => h))
   have O3 := Lib.hid (o3.lower K2.out.size)
   clear o3 k3
   go_wp2
   refine MixK.on (InS.mk ((mH.out _).2 (⟨B3.out.cellD 0 _ rfl, B3.out.cellD 1 _ rfl, B3.out.cellD 2 _ rfl⟩))) ?_
   refine wpMix_seg 4 (by kernel_rfl) (by decide) ?_
   simp only [tds]
   repeat (go_big_quiet_step (fail))
   refine wpQuiet_nil ?_
   refine wpMix_nil ?_
   clear mk0 mk1 mk2 mn mH
   go_wp2
   go_ret2
   exact ⟨_, rfl, O3.out, K3.out⟩
open Go.RowKit
theorem tl86 (P : Prop) (h : P := by
 rintro e w1 ⟨rfl, k1⟩
 have K1 := Lib.hid (K0.out.trans k1 (T := None) (fun _ h => h) (fun _ _ h => h))
 clear k1
 go_wp2
 go_ret
 rw [HG.out]
 exact ⟨rfl, _, Turn.still HW.out K1.out⟩) : P := h
set_option maxRecDepth 100000 in
set_option maxHeartbeats 800000 in
theorem gprogram_any (B : Nat) (L : FL) (s : FS) (q first count : Nat) (a : Int) (A : Option Addr) (m c : Nat) (zs : List Int) (w : World) (h : FAt w B L s) (hq : L.bf = q) (hf : first + count ≤ 256) (hb : Bs w A m c zs) (hst : 0 ≤ s.steps ∧ s.steps + m ≤ 1000000000000)
    (hA : ∀ b off, 0 < m → A = some ⟨b, off, none⟩ → ¬ L.S b) : Calls Tryz.prog 83 #[.agg #[.pointer (some ⟨q, 0, none⟩), .int .i64 first, .int .i64 count], .int .i64 a, .slice A m c] w (ProgTold w B L (s.gprog first count a zs)) := by
 have MAY := Lib.hid (fun w' (hh : FAt w' B L s) => gmay_any B L s q first count a m w' hh hq (by omega))
 have hml := hb.len
 have hle := hb.le
 have hmx := hb.max
 have PR := Lib.hid (fun w' a (hh : FAt w' B L s) (hk : Keeps None w w') => fprogram_any B L s a A m c zs w' hh (hb.keeps hk (fun _ _ _ _ _ h => h)) hst hA)
 simp only [FL.p, hq] at PR
 have GR : Hid (s.gprog first count a zs = if s.dark = true then (s, 5) else if withinB a m (1024 * count : Nat) = true then s.progF (1024 * first + a) zs else (s, 2)) := by
  show s.gprog first count a zs = _
  unfold FS.gprog; rw [hml]
 have NB : Hid (¬ L.O w.heap.size) := fun hO => Nat.lt_irrefl _ (h.lt _ hO)
 have HW := Lib.hid h
 have k0 : Keeps None w (w.alloc (.cells #[.pointer (some ⟨q, 0, none⟩), .int .i64 first, .int .i64 count] 80)) := (Keeps.refl None w).alloc _
 have bx : Blk (w.alloc (.cells #[.pointer (some ⟨q, 0, none⟩), .int .i64 first, .int .i64 count] 80)) w.heap.size [.pointer (some ⟨q, 0, none⟩), .int .i64 first, .int .i64 count] 80 := Blk.new w [.pointer (some ⟨q, 0, none⟩), .int .i64 first, .int .i64 count] 80
 have K0 := Lib.hid k0
 have BX := Lib.hid bx
 clear k0 bx
 have H0 := Lib.hid (h.later K0.out)
 clear h hb hA hml
 have gen : ∀ er : Int, er ≠ 0 → mayF s.dark a m (1024 * count : Nat) = er → s.gprog first count a zs = (s, er) → Calls Tryz.prog 83 #[.agg #[.pointer (some ⟨q, 0, none⟩), .int .i64 first, .int .i64 count], .int .i64 a, .slice A m c] w (ProgTold w B L (s.gprog first count a zs)) := by
  intro er h0 hm hg
  have e1 : (er != 0) = true := by simp [h0]
  have HG := Lib.hid hg
  rw [hm] at MAY
  clear hm hg h0
  go_enter Tryz.func83, Tryz.ntmps83
  go_wp2_with fail
  refine (MAY.out _ H0.out).mono ?_
  exact tl86 _
 cases hd : s.dark with
 | true => exact gen 5 (by decide) (by rw [hd]; rfl) (by rw [GR.out, if_pos hd])
 | false =>
  cases hw : withinB a m (1024 * count : Nat) with
  | false => exact gen 2 (by decide) (by rw [hd]; unfold mayF; rw [if_neg (by decide), if_neg (by rw [hw]; decide)]) (by rw [GR.out, if_neg (by rw [hd]; decide), if_neg (by rw [hw]; decide)])
  | true =>
   have hg : s.gprog first count a zs = s.progF (1024 * first + a) zs := by rw [GR.out, if_neg (by rw [hd]; decide), if_pos hw]
   have hm : mayF s.dark a m (1024 * count : Nat) = 0 := by rw [hd]; unfold mayF; rw [if_neg (by decide), if_pos hw]
   obtain ⟨i, j, rfl, hj, hij⟩ := within_nat hw
   rw [hg]
   rw [hm] at MAY
   have BS := Lib.hid (fun w => gbase_any (some ⟨q, 0, none⟩) first count (by omega) w)
   obtain ⟨bs, hbs⟩ : ∃ b : Nat, 1024 * first = b := ⟨_, rfl⟩
   obtain ⟨p, hp⟩ : ∃ p : Nat, bs + i = p := ⟨_, rfl⟩
   have e1 : (1024 * (first : Int) + i) = (p : Int) := by omega
   rw [e1]
   rw [hbs] at BS
   have w1 : IntKind.i64.wrap ((bs : Int) + i) = p := by rw [show (bs : Int) + i = (p : Int) by omega]; exact wrap_nat _ (by omega)
   have PRp := Lib.hid (fun w' (hh : FAt w' B L s) (hk : Keeps None w w') => PR.out w' p hh hk)
   generalize s.progF p zs = r at *
   clear gen GR hg hm hw hd PR hbs hp e1 hj
   go_enter Tryz.func83, Tryz.ntmps83
   go_wp2_with fail
   refine (MAY.out _ H0.out).mono ?_
   rintro e w1' ⟨rfl, k1⟩
   have K1 := Lib.hid (K0.out.trans k1 (T := None) (fun _ h => h) (fun _ _ h => h))
   have B1 := Lib.hid (k1.blk BX.out (fun h => h))
   have H1 := Lib.hid (H0.out.later k1)
   clear k1
   go_wp2
   obtain ⟨mS, mh⟩ : ∃ S : World → Prop, ∀ w', S w' ↔ (w'.cell? ⟨w.heap.size, 0, none⟩ = some (.pointer (some ⟨q, 0, none⟩)) ∧ w'.cell? ⟨w.heap.size, 1, none⟩ = some (.int .i64 first) ∧ w'.cell? ⟨w.heap.size, 2, none⟩ = some (.int .i64 count)) := ⟨_, fun _ => Iff.rfl⟩
   have mk0 : ∀ x : Memb mS, x.at_.cell? ⟨w.heap.size, 0, none⟩ = some (.pointer (some ⟨q, 0, none⟩)) := fun x => ((mh _).1 x.is).1
   have mk1 : ∀ x : Memb mS, x.at_.cell? ⟨w.heap.size, 1, none⟩ = some (.int .i64 first) := fun x => ((mh _).1 x.is).2.1
   have mk2 : ∀ x : Memb mS, x.at_.cell? ⟨w.heap.size, 2, none⟩ = some (.int .i64 count) := fun x => ((mh _).1 x.is).2.2
   have mn : Nonempty (Memb mS) := ⟨⟨(w1').drew, (mh _).2 ⟨B1.out.cellD 0 _ rfl, B1.out.cellD 1 _ rfl, B1.out.cellD 2 _ rfl⟩⟩⟩
   have mH := Lib.hid mh
   clear mh
   refine wp_region_mix [3, 7] (InS mS) (by kernel_rfl) (by kernel_rfl) (InS.mk ((mH.out _).2 ⟨B1.out.cellD 0 _ rfl, B1.out.cellD 1 _ rfl, B1.out.cellD 2 _ rfl⟩)) ?_
   refine wpMix_seg 3 (by kernel_rfl) (by decide) ?_
   simp only [tds]
   repeat (go_big_quiet_step (fail))
   refine wpQuiet_nil ?_
   refine wpMix_eff (by kernel_rfl) ?_
   go_wp2_with fail
   refine (BS.out _).mono ?_
   rintro e w2 ⟨rfl, k2⟩
   have K2 := Lib.hid (K1.out.drew.trans k2 (T := None) (fun _ h => h) (fun _ _ h => h))
   have B2 := Lib.hid (k2.blk B1.out.drew (fun h => h))
   have H2 := Lib.hid (H1.out.drew.later k2)
   clear k2
   go_wp2
   refine MixK.on (InS.mk ((mH.out _).2 (⟨B2.out.cellD 0 _ rfl, B2.out.cellD 1 _ rfl, B2.out.cellD 2 _ rfl⟩))) ?_
   refine wpMix_seg 3 (by kernel_rfl) (by decide) ?_
   simp only [tds]
   repeat (go_big_quiet_step (fail))
   refine wpQuiet_nil ?_
   refine wpMix_eff (by kernel_rfl) ?_
   go_wp2_with fail
   refine (PRp.out _ H2.out K2.out).mono ?_
   rintro e w3 ⟨rfl, L3, t3⟩
   have T3 := Lib.hid (Turn.from K2.out t3)
   have B3 := Lib.hid (t3.keeps.blk B2.out NB.out)
   clear t3
   go_wp2
   refine MixK.on (InS.mk ((mH.out _).2 (⟨B3.out.cellD 0 _ rfl, B3.out.cellD 1 _ rfl, B3.out.cellD 2 _ rfl⟩))) ?_
   refine wpMix_seg 1 (by kernel_rfl) (by decide) ?_
   simp only [tds]
   repeat (go_big_quiet_step (fail))
   refine wpQuiet_nil ?_
   refine wpMix_nil ?_
   clear mk0 mk1 mk2 mn mH
   go_wp2
   go_ret
   exact ⟨rfl, _, T3.out⟩
theorem tl87 (P : Prop) (h : P := by
 go_enter Tryz.func120, Tryz.ntmps120
 exact tl84 _) : P := h
theorem tl88 (P : Prop) (h : P := by
 clear WI0
 exact tl87 _) : P := h
set_option maxRecDepth 100000 in
theorem gsector_any (B : Nat) (L : FL) (s : FS) (q first count : Nat) (k : Int) (w : World) (h : FAt w B L s) (hq : L.bf = q) (hc : count ≤ 1000000) : Calls Tryz.prog 120 #[.agg #[.pointer (some ⟨q, 0, none⟩), .int .i64 first, .int .i64 count], .int .i64 k] w (Pure (.int .i64 (sectF s.dark k count)) w) := by
 have OFF := Lib.hid (fun w' (hh : FAt w' B L s) => foff_any B L s w' hh)
 simp only [FL.p, hq] at OFF
 have k0 : Keeps None w (w.alloc (.cells #[.pointer (some ⟨q, 0, none⟩), .int .i64 first, .int .i64 count] 80)) := (Keeps.refl None w).alloc _
 have bx : Blk (w.alloc (.cells #[.pointer (some ⟨q, 0, none⟩), .int .i64 first, .int .i64 count] 80)) w.heap.size [.pointer (some ⟨q, 0, none⟩), .int .i64 first, .int .i64 count] 80 := Blk.new w [.pointer (some ⟨q, 0, none⟩), .int .i64 first, .int .i64 count] 80
 have K0 := Lib.hid k0
 have BX := Lib.hid bx
 clear k0 bx
 have H0 := Lib.hid (h.later K0.out)
 clear h
 cases hd : s.dark with
 | true =>
  rw [hd] at OFF
  have WI : Hid (sectF true k count = 5) := rfl
  clear hd
  exact tl87 _
 | false =>
  rw [hd] at OFF
  have WI0 : Hid (sectF false k count = if k < 0 ∨ (count : Int) ≤ k then 2 else 0) := if_neg (by decide)
  clear hd
  by_cases q1 : k < 0
  ·have d1 : decide (k < 0) = true := decide_eq_true q1
   have WI : Hid (sectF false k count = 2) := by show _ = _; rw [WI0.out, if_pos (.inl q1)]
   exact tl88 _
  have d1 : decide (k < 0) = false := decide_eq_false q1
  by_cases q2 : (count : Int) ≤ k
  ·have d2 : decide ((count : Int) ≤ k) = true := decide_eq_true q2
   have WI : Hid (sectF false k count = 2) := by show _ = _; rw [WI0.out, if_pos (.inr q2)]
   exact tl88 _
  have d2 : decide ((count : Int) ≤ k) = false := decide_eq_false q2
  have WI : Hid (sectF false k count = 0) := by show _ = _; rw [WI0.out, if_neg (by omega)]
  exact tl88 _
theorem tl89 (P : Prop) (h : P := by
 exact gen 2 (by decide) (by rw [hd]; unfold sectF; rw [if_neg (by decide), if_pos q1]) (by rw [GR.out, if_neg (by rw [hd]; decide), if_pos q1])) : P := h
set_option maxRecDepth 100000 in
theorem gerase_any (B : Nat) (L : FL) (s : FS) (q first count : Nat) (k : Int) (w : World) (h : FAt w B L s) (hq : L.bf = q) (hf : first + count ≤ 256) (hst : 0 ≤ s.steps ∧ s.steps ≤ 1000000000000) (her : ∀ i, 0 ≤ s.er.getD i 0 ∧ s.er.getD i 0 ≤ 1000000000000) :
    Calls Tryz.prog 106 #[.agg #[.pointer (some ⟨q, 0, none⟩), .int .i64 first, .int .i64 count], .int .i64 k] w (ProgTold w B L (s.gerase first count k)) := by
 have SEC := Lib.hid (fun w' (hh : FAt w' B L s) => gsector_any B L s q first count k w' hh hq (by omega))
 have ER := Lib.hid (fun w' k (hh : FAt w' B L s) => ferase_any B L s k w' hh hst her)
 simp only [FL.p, hq] at ER
 have GR : Hid (s.gerase first count k = if s.dark = true then (s, 5) else if k < 0 ∨ (count : Int) ≤ k then (s, 2) else s.eraseF (first + k)) := rfl
 have HW := Lib.hid h
 have k0 : Keeps None w (w.alloc (.cells #[.pointer (some ⟨q, 0, none⟩), .int .i64 first, .int .i64 count] 80)) := (Keeps.refl None w).alloc _
 have bx : Blk (w.alloc (.cells #[.pointer (some ⟨q, 0, none⟩), .int .i64 first, .int .i64 count] 80)) w.heap.size [.pointer (some ⟨q, 0, none⟩), .int .i64 first, .int .i64 count] 80 := Blk.new w [.pointer (some ⟨q, 0, none⟩), .int .i64 first, .int .i64 count] 80
 have K0 := Lib.hid k0
 have BX := Lib.hid bx
 clear k0 bx
 have H0 := Lib.hid (h.later K0.out)
 clear h
 have gen : ∀ er : Int, er ≠ 0 → sectF s.dark k count = er → s.gerase first count k = (s, er) → Calls Tryz.prog 106 #[.agg #[.pointer (some ⟨q, 0, none⟩), .int .i64 first, .int .i64 count], .int .i64 k] w (ProgTold w B L (s.gerase first count k)) := by
  intro er h0 hm hg
  have e1 : (er != 0) = true := by simp [h0]
  have HG := Lib.hid hg
  rw [hm] at SEC
  clear hm hg h0
  go_enter Tryz.func106, Tryz.ntmps106
  go_wp2_with fail
  refine (SEC.out _ H0.out).mono ?_
  exact tl86 _
 cases hd : s.dark with
 | true => exact gen 5 (by decide) (by rw [hd]; rfl) (by rw [GR.out, if_pos hd])
 | false =>
  by_cases q1 : k < 0 ∨ (count : Int) ≤ k
  ·exact tl89 _
  ·have hg : s.gerase first count k = s.eraseF (first + k) := by rw [GR.out, if_neg (by rw [hd]; decide), if_neg q1]
   have hm : sectF s.dark k count = 0 := by rw [hd]; unfold sectF; rw [if_neg (by decide), if_neg q1]
   have b1 : 0 ≤ k := by omega
   have b2 : k ≤ 256 := by omega
   rw [hg]
   rw [hm] at SEC
   have ERp := Lib.hid (fun w' (hh : FAt w' B L s) => ER.out w' (first + k) hh)
   generalize s.eraseF (first + k) = r at *
   clear gen GR hg hm hd ER q1
   go_enter Tryz.func106, Tryz.ntmps106
   go_wp2_with fail
   refine (SEC.out _ H0.out).mono ?_
   rintro e w1 ⟨rfl, k1⟩
   have K1 := Lib.hid (K0.out.trans k1 (T := None) (fun _ h => h) (fun _ _ h => h))
   have B1 := Lib.hid (k1.blk BX.out (fun h => h))
   have H1 := Lib.hid (H0.out.later k1)
   have y0 := B1.out.cellD 0 _ rfl
   have y1 := B1.out.cellD 1 _ rfl
   have y2 := B1.out.cellD 2 _ rfl
   clear k1
   go_wp2_with fail
   refine (ERp.out _ H1.out).mono ?_
   rintro e w3 ⟨rfl, L3, t3⟩
   have T3 := Lib.hid (Turn.from K1.out t3)
   clear t3
   go_wp2
   go_ret
   exact ⟨rfl, _, T3.out⟩
theorem tl90 (P : Prop) (h : P := by
 unfold FS.gread
 rw [if_neg (by rw [hd]; decide), if_pos (show withinB _ _ _ = true from decide_eq_true ⟨by omega, by omega, by omega, by omega⟩)]
 unfold FS.readF
 rw [if_neg (by rw [hd]; decide), hbl, if_pos (show withinB _ _ _ = true from decide_eq_true ⟨by omega, by omega, by omega, by omega⟩)]
 have e : (1024 * (first : Int) + ((1024 * j : Nat) : Int)).toNat = 1024 * (first + j) := by omega
 rw [e]; rfl) : P := h
set_option maxRecDepth 100000 in
theorem gisblank_any (B : Nat) (L : FL) (s : FS) (q first count : Nat) (k : Int) (w : World) (h : FAt w B L s) (hq : L.bf = q) (hf : first + count ≤ L.n) :
    Calls Tryz.prog 105 #[.agg #[.pointer (some ⟨q, 0, none⟩), .int .i64 first, .int .i64 count], .int .i64 k] w (Pure (.tuple #[.bool (s.gblank first count k).1, .int .i64 (s.gblank first count k).2]) w) := by
 have hn9 := h.n9
 have SEC := Lib.hid (fun w' (hh : FAt w' B L s) => gsector_any B L s q first count k w' hh hq (by omega))
 have RD := Lib.hid (fun w' a m (hh : FAt w' B L s) => gread_any B L s q first count a m w' hh hq (by omega))
 have GR : Hid (s.gblank first count k = if s.dark = true then (false, 5) else if k < 0 ∨ (count : Int) ≤ k then (false, 2) else (blankB ((s.b.drop (1024 * (first + k.toNat))).take 1024), 0)) := rfl
 have hbl := h.bl
 have hnN := h.nN
 have k0 : Keeps None w (w.alloc (.cells #[.pointer (some ⟨q, 0, none⟩), .int .i64 first, .int .i64 count] 80)) := (Keeps.refl None w).alloc _
 have bx : Blk (w.alloc (.cells #[.pointer (some ⟨q, 0, none⟩), .int .i64 first, .int .i64 count] 80)) w.heap.size [.pointer (some ⟨q, 0, none⟩), .int .i64 first, .int .i64 count] 80 := Blk.new w [.pointer (some ⟨q, 0, none⟩), .int .i64 first, .int .i64 count] 80
 have K0 := Lib.hid k0
 have BX := Lib.hid bx
 clear k0 bx
 have H0 := Lib.hid (h.later K0.out)
 clear h
 have gen : ∀ er : Int, er ≠ 0 → sectF s.dark k count = er → s.gblank first count k = (false, er) → Calls Tryz.prog 105 #[.agg #[.pointer (some ⟨q, 0, none⟩), .int .i64 first, .int .i64 count], .int .i64 k] w (Pure (.tuple #[.bool (s.gblank first count k).1, .int .i64 (s.gblank first count k).2]) w) := by
  intro er h0 hm hg
  have e1 : (er != 0) = true := by simp [h0]
  have HG := Lib.hid hg
  rw [hm] at SEC
  clear hm hg h0
  go_enter Tryz.func105, Tryz.ntmps105
  go_wp2_with fail
  refine (SEC.out _ H0.out).mono ?_
  rintro e w1 ⟨rfl, k1⟩
  have K1 := Lib.hid (K0.out.trans k1 (T := None) (fun _ h => h) (fun _ _ h => h))
  clear k1
  go_wp2
  go_ret2
  rw [HG.out]
  exact ⟨rfl, K1.out⟩
 cases hd : s.dark with
 | true => exact gen 5 (by decide) (by rw [hd]; rfl) (by rw [GR.out, if_pos hd])
 | false =>
  by_cases q1 : k < 0 ∨ (count : Int) ≤ k
  ·exact tl89 _
  ·obtain ⟨j, rfl⟩ : ∃ j : Nat, k = j := ⟨k.toNat, by omega⟩
   have hj : j < count := by omega
   have hg : s.gblank first count j = (blankB ((s.b.drop (1024 * (first + j))).take 1024), 0) := by rw [GR.out, if_neg (by rw [hd]; decide), if_neg q1, Int.toNat_natCast]
   have hm : sectF s.dark j count = 0 := by rw [hd]; unfold sectF; rw [if_neg (by decide), if_neg q1]
   have hr : s.gread first count ((1024 * j : Nat) : Int) 1024 = ((s.b.drop (1024 * (first + j))).take 1024, 0) := by
    exact tl90 _
   rw [hg]
   rw [hm] at SEC
   have RDp := Lib.hid (fun w' (hh : FAt w' B L s) => RD.out w' ((1024 * j : Nat) : Int) 1024 hh)
   rw [hr] at RDp
   obtain ⟨zs, hzs⟩ : ∃ zs, (s.b.drop (1024 * (first + j))).take 1024 = zs := ⟨_, rfl⟩
   rw [hzs] at RDp ⊢
   obtain ⟨p, hp⟩ : ∃ p : Nat, 1024 * j = p := ⟨_, rfl⟩
   have e1 : ((j : Int) * 1024) = p := by omega
   rw [hp] at RDp
   clear gen GR hg hm hd RD q1 hr hzs hp hbl hnN
   go_enter Tryz.func105, Tryz.ntmps105
   go_wp2_with fail
   refine (SEC.out _ H0.out).mono ?_
   rintro e w1 ⟨rfl, k1⟩
   have K1 := Lib.hid (K0.out.trans k1 (T := None) (fun _ h => h) (fun _ _ h => h))
   have B1 := Lib.hid (k1.blk BX.out (fun h => h))
   have H1 := Lib.hid (H0.out.later k1)
   have y0 := B1.out.cellD 0 _ rfl
   have y1 := B1.out.cellD 1 _ rfl
   have y2 := B1.out.cellD 2 _ rfl
   clear k1
   go_wp2_with fail
   refine (RDp.out _ H1.out).mono ?_
   rintro e w3 ⟨v3, rfl, o3, k3⟩
   obtain ⟨A3, c3, rfl, bs3⟩ := slice_of_own o3
   have K3 := Lib.hid (K1.out.trans k3 (T := None) (fun _ h => h) (fun _ _ h => h))
   have IB := Lib.hid (isBlank_any _ _ _ _ _ bs3)
   clear k3 o3 bs3 y0 y1 y2
   go_wp2_with fail
   refine IB.out.mono ?_
   rintro e w' ⟨rfl, rfl⟩
   go_wp2
   go_ret2
   exact ⟨rfl, K3.out⟩
theorem results_cell2 {fn : Func} {p u : Tmp} {ty : TypeId} (h : fn.results = #[.cell p ty, .tmp u]) (tmps : Array Value) (P : Program) (w : World) :
    (results fn tmps).run P w = ((asAddr (tmps.getD p undef)).run P w).andThen fun a w₁ => ((loadVar ty a).run P w₁).andThen fun x w₂ => .ok (.tuple #[x, tmps.getD u undef]) w₂ := by
 simp only [results, h]
 simp [Sem.run_bind, Result.andThen]
theorem Tryz.infoR80 : (Tryz.prog.info? 80).map (fun i => (i.zero, i.size)) = some (some (.agg #[.pointer none, .int .i64 0, .int .i64 0]), 3) := by kernel_rfl
theorem rg_res {fn : Func} (hr : fn.results = #[.cell 6 80, .tmp 7]) {w : World} {g : Nat} {a b c x : Value} {T : TypeId} (tmps : Array Value) (h : Blk w g [a, b, c] T) (h2 : tmps.getD 6 undef = .pointer (some ⟨g, 0, none⟩)) (h3 : tmps.getD 7 undef = x) :
    (results fn tmps).run Tryz.prog w = .ok (.tuple #[.agg #[a, b, c], x]) w := by
 have hl : (loadVar 80 ⟨g, 0, none⟩).run Tryz.prog w = .ok (.agg #[a, b, c]) w :=
  run_loadVar_row w g T 80 #[a, b, c] (0, 0) _ h Tryz.underlying80 rfl (by rw [(zero_of_info Tryz.infoR80).2]; rfl)
 rw [results_cell2 (p := 6) (u := 7) (ty := 80) hr, h2, h3]
 simp only [asAddr, Sem.run_pure, Result.andThen_ok, hl]
def ofF (p : Option Addr) (first count n : Int) (b : Int) : Value := if someB first count n = true then .tuple #[.agg #[.pointer p, .int .i64 (b + first), .int .i64 count], .int .i64 0] else .tuple #[rg0, .int .i64 1]
theorem tl91 (P : Prop) (h : P := by
 rw [OF.out]
 exact ⟨rfl, by first | exact KB.out | exact (Keeps.refl None w).alloc _ | exact ((KB.out.setCell _ _ (fun h => absurd h (Nat.lt_irrefl _))).setCell _ _ (fun h => absurd h (Nat.lt_irrefl _))).setCell _ _ (fun h => absurd h (Nat.lt_irrefl _))⟩) : P := h
set_option maxRecDepth 100000 in
theorem gof_any (B : Nat) (L : FL) (s : FS) (q : Nat) (a m : Int) (w : World) (h : FAt w B L s) (hq : L.bf = q) : Calls Tryz.prog 32 #[.pointer (some ⟨q, 0, none⟩), .int .i64 a, .int .i64 m] w (Pure (ofF (some ⟨q, 0, none⟩) a m L.n 0) w) := by
 have SZ := Lib.hid (fun w' (hh : FAt w' B L s) => fsize_any B L s w' hh)
 simp only [FL.p, hq] at SZ
 have hn9 := h.n9
 have SM := Lib.hid (fun w => gsome_any a m L.n ⟨by omega, by omega⟩ w)
 have eN : ((L.N : Int) / 1024) = L.n := by have := h.nN; omega
 have H0 := Lib.hid (h.alloc (.cells #[.pointer none, .int .i64 0, .int .i64 0] 80))
 have BB : Hid (Blk (w.alloc (.cells #[.pointer none, .int .i64 0, .int .i64 0] 80)) w.heap.size [.pointer none, .int .i64 0, .int .i64 0] 80) := Blk.new w [.pointer none, .int .i64 0, .int .i64 0] 80
 have KB : Hid (Keeps None w (w.alloc (.cells #[.pointer none, .int .i64 0, .int .i64 0] 80))) := (Keeps.refl None w).alloc _
 have OF : Hid (ofF (some ⟨q, 0, none⟩) a m L.n 0 = if someB a m L.n = true then .tuple #[.agg #[.pointer (some ⟨q, 0, none⟩), .int .i64 a, .int .i64 m], .int .i64 0] else .tuple #[rg0, .int .i64 1]) := by
  show ofF _ _ _ _ _ = _
  unfold ofF; rw [Int.zero_add]
 generalize L.n = n at *
 generalize L.N = N at *
 clear h
 cases hs : someB a m n with
 | false =>
  rw [hs] at SM OF
  clear hs
  go_enter Tryz.func32, Tryz.ntmps32
  go_wp2_with fail
  refine (SZ.out _ H0.out).mono ?_
  rintro e w' ⟨rfl, rfl⟩
  go_wp2_with fail
  refine (SM.out _).mono ?_
  rintro e w' ⟨rfl, rfl⟩
  have zz0 := Blk.cellD (BB.out) 0 _ rfl
  have zz1 := Blk.cellD (BB.out) 1 _ rfl
  have zz2 := Blk.cellD (BB.out) 2 _ rfl
  have zf0 := Blk.frozen (BB.out) 0
  have zf1 := Blk.frozen (BB.out) 1
  have zf2 := Blk.frozen (BB.out) 2
  go_wp2
  refine bodyPost_ret (rg_res rfl _ (by first | exact BB.out | exact ((BB.out.set 0 _).set 1 _).set 2 _) rfl rfl) rfl ?_
  rw [OF.out]
  exact ⟨rfl, by first | exact KB.out | exact ((KB.out.setCell _ _ (fun h => absurd h (Nat.lt_irrefl _))).setCell _ _ (fun h => absurd h (Nat.lt_irrefl _))).setCell _ _ (fun h => absurd h (Nat.lt_irrefl _))⟩
 | true =>
  rw [hs] at SM OF
  clear hs
  go_enter Tryz.func32, Tryz.ntmps32
  go_wp2_with fail
  refine (SZ.out _ H0.out).mono ?_
  rintro e w' ⟨rfl, rfl⟩
  go_wp2_with fail
  refine (SM.out _).mono ?_
  rintro e w' ⟨rfl, rfl⟩
  have zz0 := Blk.cellD (BB.out) 0 _ rfl
  have zz1 := Blk.cellD (BB.out) 1 _ rfl
  have zz2 := Blk.cellD (BB.out) 2 _ rfl
  have zf0 := Blk.frozen (BB.out) 0
  have zf1 := Blk.frozen (BB.out) 1
  have zf2 := Blk.frozen (BB.out) 2
  go_wp2
  refine bodyPost_ret (rg_res rfl _ (by first | exact BB.out | exact Blk.new _ [_, _, _] _ | exact ((BB.out.set 0 _).set 1 _).set 2 _) rfl rfl) rfl ?_
  exact tl91 _
open Go.RowKit
section
variable {W w : World} {B q : Nat} {L : FL} {s : FS} {first count : Nat}
theorem lgof (h : LF W w B q L s) (a m : Int) : Calls Tryz.prog 32 #[.pointer (some ⟨q, 0, none⟩), .int .i64 a, .int .i64 m] w (Pure (ofF (some ⟨q, 0, none⟩) a m s.er.length 0) w) := by
 have := gof_any B L s q a m w h.at_ h.q
 rwa [← h.at_.el] at this
end
theorem ofF_yes {p : Option Addr} {a m n b : Int} (h : someB a m n = true) : ofF p a m n b = .tuple #[.agg #[.pointer p, .int .i64 (b + a), .int .i64 m], .int .i64 0] := if_pos h
end Go.Proofs.YtobgbilanibodaaGreat
