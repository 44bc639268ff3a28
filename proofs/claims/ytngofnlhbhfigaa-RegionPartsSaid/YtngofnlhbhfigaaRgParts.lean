/-
  For all sectors, parts and rows of bytes, the law RegionParts returns true: a part of a region is that of the flash. No condition.
-/
import Derived.Test.YtngofnlhbhfigaaRgLaw
import Derived.Test.YtngofnlhbhfigaaFrame
import Derived.Test.YtngofnlhbhfigaaInit
namespace Go.Proofs.Ytngofnlhbhfigaa
open Go.RowKit Go.ChangeShapes Go.WideShapes Go.ChangeAt

/-- Words programmed at the beginning of a part of five blank sectors. -/
theorem parts_plain (f2 n : Nat) (hf : f2 + n ≤ 5) (h1 : 1 ≤ n) (ws : List Int) (K : Nat) (hw : ws.length = 8 * K) (hk : K ≤ 8) (hb : ∀ z ∈ ws, 0 ≤ z ∧ z ≤ 255) :
    ∃ s1 : FS, (newF 5).gprog f2 n 0 ws = (s1, 0) ∧ s1.peekF ((1024 * f2 : Nat) : Int) ws.length = ws := by
  have hn : newF 5 = { b := List.replicate 5120 255, er := [0, 0, 0, 0, 0], steps := 0, left := -1, pick := [], dark := false } := rfl
  have hrl : (List.replicate 5120 (255 : Int)).length = 5120 := List.length_replicate
  have hcan : canN (((List.replicate 5120 (255 : Int)).drop (1024 * f2)).take ws.length) ws = true := blank_can 5120 ws.length (by omega) ws hb rfl (1024 * f2) (by omega)
  rw [hn]
  generalize List.replicate 5120 (255 : Int) = bl at *
  have hg : ({ b := bl, er := [0, 0, 0, 0, 0], steps := 0, left := -1, pick := [], dark := false } : FS).gprog f2 n 0 ws = ({ b := bl, er := [0, 0, 0, 0, 0], steps := 0, left := -1, pick := [], dark := false } : FS).progF ((1024 * f2 : Nat) : Int) ws := by
    unfold FS.gprog
    have hwi : withinB 0 ws.length (1024 * n : Nat) = true := decide_eq_true ⟨by decide, by omega, by omega, by omega⟩
    rw [if_neg (by show ¬ false = true; decide), if_pos hwi]
    have : (1024 * (f2 : Int) + 0) = ((1024 * f2 : Nat) : Int) := by omega
    rw [this]
  have hp := prog_free (s := { b := bl, er := [0, 0, 0, 0, 0], steps := 0, left := -1, pick := [], dark := false }) rfl (show (-1 : Int) < 0 by decide) (a := 1024 * f2) (K := K) (zs := ws) hw (by omega) (by show 1024 * f2 + ws.length ≤ bl.length; omega) hcan
  refine ⟨_, by rw [hg, hp], ?_⟩
  unfold FS.peekF
  have hl : (splice bl (1024 * f2) ws).length = 5120 := by rw [splice_len _ _ _ (by omega)]; exact hrl
  have hwi : withinB ((1024 * f2 : Nat) : Int) ws.length (5120 : Nat) = true := decide_eq_true ⟨by omega, by omega, by omega, by omega⟩
  show (if withinB ((1024 * f2 : Nat) : Int) ws.length ((splice bl (1024 * f2) ws).length : Nat) = true then ((splice bl (1024 * f2) ws).drop ((1024 * f2 : Nat) : Int).toNat).take (ws.length : Int).toNat else _) = _
  rw [hl, if_pos hwi, Int.toNat_natCast, Int.toNat_natCast]
  exact splice_mid bl ws (1024 * f2) (by omega)

set_option maxRecDepth 100000 in
set_option maxHeartbeats 3200000 in
theorem parts3_any (first count fr nn : Int) (A : Option Addr) (m cap : Nat) (zs : List Int) (W : World) (h : Bs W A m cap zs) :
    Calls Try.prog 3 #[.int .i64 first, .int .i64 count, .int .i64 fr, .int .i64 nn, .slice A m cap] W fun e w' => e = .returned (.bool true) ∧ Below W.heap.size W w' := by
  have hle := h.le
  have hmx := h.max
  by_cases g1 : first < 0
  · have d1 : decide (first < 0) = true := decide_eq_true g1
    clear h
    go_enter Try.func3, Try.ntmps3
    go_wp2_with fail
    refine (alive3_any W).mono ?_
    rintro e w1 ⟨rfl, K1⟩
    go_wp2
    go_ret
    exact ⟨rfl, K1.below (fun _ _ h => h)⟩
  have d1 : decide (first < 0) = false := decide_eq_false g1
  by_cases g2 : 4 < first
  · have d2 : decide (4 < first) = true := decide_eq_true g2
    clear h
    go_enter Try.func3, Try.ntmps3
    go_wp2_with fail
    refine (alive3_any W).mono ?_
    rintro e w1 ⟨rfl, K1⟩
    go_wp2
    go_ret
    exact ⟨rfl, K1.below (fun _ _ h => h)⟩
  have d2 : decide (4 < first) = false := decide_eq_false g2
  by_cases g3 : count < 1
  · have d3 : decide (count < 1) = true := decide_eq_true g3
    clear h
    go_enter Try.func3, Try.ntmps3
    go_wp2_with fail
    refine (alive3_any W).mono ?_
    rintro e w1 ⟨rfl, K1⟩
    go_wp2
    go_ret
    exact ⟨rfl, K1.below (fun _ _ h => h)⟩
  have d3 : decide (count < 1) = false := decide_eq_false g3
  by_cases g4 : 5 - first < count
  · have d4 : decide (5 - first < count) = true := decide_eq_true g4
    clear h
    go_enter Try.func3, Try.ntmps3
    go_wp2_with fail
    refine (alive3_any W).mono ?_
    rintro e w1 ⟨rfl, K1⟩
    go_wp2
    go_ret
    exact ⟨rfl, K1.below (fun _ _ h => h)⟩
  have d4 : decide (5 - first < count) = false := decide_eq_false g4
  by_cases g5 : 64 < m
  · have d5 : decide (64 < (m : Int)) = true := decide_eq_true (by omega)
    clear h
    go_enter Try.func3, Try.ntmps3
    go_wp2_with fail
    refine (alive3_any W).mono ?_
    rintro e w1 ⟨rfl, K1⟩
    go_wp2
    go_ret
    exact ⟨rfl, K1.below (fun _ _ h => h)⟩
  have d5 : decide (64 < (m : Int)) = false := decide_eq_false (by omega)
  obtain ⟨f1, rfl⟩ : ∃ f : Nat, first = f := ⟨first.toNat, by omega⟩
  obtain ⟨c1, rfl⟩ : ∃ c : Nat, count = c := ⟨count.toNat, by omega⟩
  have hfc : f1 + c1 ≤ 5 := by omega
  have N2 := Lib.hid num3_any
  have SB1 : Hid (someB f1 c1 ((5 : Nat) : Int) = true) := decide_eq_true (by omega)
  have ER : Hid ((newF 5).er.length = 5) := rfl
  have ST : Hid ((newF 5).steps = 0) := rfl
  have NW := Lib.hid (fun w (hk : Keeps None W w) => lnew hk 5)
  have HB := Lib.hid h
  have PP := Lib.hid (fun f2 n ws K a b c d e => parts_plain f2 n a b ws K c d e)
  clear h
  generalize newF 5 = f0 at *
  by_cases k1 : fr < 0
  · have e1 : decide (fr < 0) = true := decide_eq_true k1
    -- the part is none
    have SB2 : Hid (someB fr nn c1 = false) := by unfold someB; exact decide_eq_false (by omega)
    go_enter Try.func3, Try.ntmps3
    go_wp2_with fail
    refine (alive3_any W).mono ?_
    rintro e w1 ⟨rfl, K1⟩
    have HK1 := Lib.hid K1
    clear K1
    go_wp2_with fail
    refine (NW.out _ HK1.out).mono ?_
    rintro e w2 ⟨q, L, rfl, hF⟩
    have HF := Lib.hid hF
    clear hF NW
    go_wp2_with fail
    refine (lgof HF.out f1 c1).mono ?_
    rw [ER.out, ofF_yes SB1.out, Int.zero_add]
    rintro e w3 ⟨rfl, k3⟩
    have H3 := Lib.hid ((HF.out.later k3).alloc (.cells #[.pointer (some ⟨q, 0, none⟩), .int .i64 f1, .int .i64 c1] 27))
    have R3 := Lib.hid (Blk.new w3 [.pointer (some ⟨q, 0, none⟩), .int .i64 f1, .int .i64 c1] 27)
    have NB := Lib.hid (fun k (hk : w3.heap.size ≤ k) (hO : L.O k) => (absurd ((HF.out.later k3).at_.lt k hO) (Nat.not_lt.2 hk) : False))
    clear k3 HF
    have y0 := R3.out.cellD 0 _ rfl
    have y1 := R3.out.cellD 1 _ rfl
    have y2 := R3.out.cellD 2 _ rfl
    go_wp2_with fail
    refine (gpart_any (some ⟨q, 0, none⟩) f1 c1 (by omega) (by omega) fr nn _).mono ?_
    rw [ofF_no SB2.out]
    rintro e w4 ⟨rfl, k4⟩
    simp only [rg0]
    have H4 := Lib.hid ((H3.out.later k4).alloc (.cells #[.pointer none, .int .i64 0, .int .i64 0] 27))
    have P4 := Lib.hid (Blk.new w4 [.pointer none, .int .i64 0, .int .i64 0] 27)
    have x0 := P4.out.cellD 0 _ rfl
    have x1 := P4.out.cellD 1 _ rfl
    have x2 := P4.out.cellD 2 _ rfl
    clear k4 H3 y0 y1 y2
    go_wp2_with fail
    refine (N2.out _ _).mono ?_
    rintro e w' ⟨rfl, rfl⟩
    go_wp2_with fail
    refine (N2.out _ _).mono ?_
    rintro e w' ⟨rfl, rfl⟩
    go_wp2_with fail
    refine (gsize_any none 0 0 (by decide) _).mono ?_
    rintro e w5 ⟨rfl, k5⟩
    have H5 := Lib.hid (H4.out.later k5)
    clear k5
    go_wp2
    go_ret
    exact ⟨by first | rfl | simp, H5.out.keeps.below (fun _ _ h => h)⟩
  have e1 : decide (fr < 0) = false := decide_eq_false k1
  by_cases k2 : nn < 1
  · have e2 : decide (nn < 1) = true := decide_eq_true k2
    -- the part is none
    have SB2 : Hid (someB fr nn c1 = false) := by unfold someB; exact decide_eq_false (by omega)
    go_enter Try.func3, Try.ntmps3
    go_wp2_with fail
    refine (alive3_any W).mono ?_
    rintro e w1 ⟨rfl, K1⟩
    have HK1 := Lib.hid K1
    clear K1
    go_wp2_with fail
    refine (NW.out _ HK1.out).mono ?_
    rintro e w2 ⟨q, L, rfl, hF⟩
    have HF := Lib.hid hF
    clear hF NW
    go_wp2_with fail
    refine (lgof HF.out f1 c1).mono ?_
    rw [ER.out, ofF_yes SB1.out, Int.zero_add]
    rintro e w3 ⟨rfl, k3⟩
    have H3 := Lib.hid ((HF.out.later k3).alloc (.cells #[.pointer (some ⟨q, 0, none⟩), .int .i64 f1, .int .i64 c1] 27))
    have R3 := Lib.hid (Blk.new w3 [.pointer (some ⟨q, 0, none⟩), .int .i64 f1, .int .i64 c1] 27)
    have NB := Lib.hid (fun k (hk : w3.heap.size ≤ k) (hO : L.O k) => (absurd ((HF.out.later k3).at_.lt k hO) (Nat.not_lt.2 hk) : False))
    clear k3 HF
    have y0 := R3.out.cellD 0 _ rfl
    have y1 := R3.out.cellD 1 _ rfl
    have y2 := R3.out.cellD 2 _ rfl
    go_wp2_with fail
    refine (gpart_any (some ⟨q, 0, none⟩) f1 c1 (by omega) (by omega) fr nn _).mono ?_
    rw [ofF_no SB2.out]
    rintro e w4 ⟨rfl, k4⟩
    simp only [rg0]
    have H4 := Lib.hid ((H3.out.later k4).alloc (.cells #[.pointer none, .int .i64 0, .int .i64 0] 27))
    have P4 := Lib.hid (Blk.new w4 [.pointer none, .int .i64 0, .int .i64 0] 27)
    have x0 := P4.out.cellD 0 _ rfl
    have x1 := P4.out.cellD 1 _ rfl
    have x2 := P4.out.cellD 2 _ rfl
    clear k4 H3 y0 y1 y2
    go_wp2_with fail
    refine (N2.out _ _).mono ?_
    rintro e w' ⟨rfl, rfl⟩
    go_wp2_with fail
    refine (N2.out _ _).mono ?_
    rintro e w' ⟨rfl, rfl⟩
    go_wp2_with fail
    refine (gsize_any none 0 0 (by decide) _).mono ?_
    rintro e w5 ⟨rfl, k5⟩
    have H5 := Lib.hid (H4.out.later k5)
    clear k5
    go_wp2
    go_ret
    exact ⟨by first | rfl | simp, H5.out.keeps.below (fun _ _ h => h)⟩
  have e2 : decide (nn < 1) = false := decide_eq_false k2
  by_cases k3 : (c1 : Int) < fr
  · have e3 : decide ((c1 : Int) < fr) = true := decide_eq_true k3
    -- the part is none
    have SB2 : Hid (someB fr nn c1 = false) := by unfold someB; exact decide_eq_false (by omega)
    go_enter Try.func3, Try.ntmps3
    go_wp2_with fail
    refine (alive3_any W).mono ?_
    rintro e w1 ⟨rfl, K1⟩
    have HK1 := Lib.hid K1
    clear K1
    go_wp2_with fail
    refine (NW.out _ HK1.out).mono ?_
    rintro e w2 ⟨q, L, rfl, hF⟩
    have HF := Lib.hid hF
    clear hF NW
    go_wp2_with fail
    refine (lgof HF.out f1 c1).mono ?_
    rw [ER.out, ofF_yes SB1.out, Int.zero_add]
    rintro e w3 ⟨rfl, k3⟩
    have H3 := Lib.hid ((HF.out.later k3).alloc (.cells #[.pointer (some ⟨q, 0, none⟩), .int .i64 f1, .int .i64 c1] 27))
    have R3 := Lib.hid (Blk.new w3 [.pointer (some ⟨q, 0, none⟩), .int .i64 f1, .int .i64 c1] 27)
    have NB := Lib.hid (fun k (hk : w3.heap.size ≤ k) (hO : L.O k) => (absurd ((HF.out.later k3).at_.lt k hO) (Nat.not_lt.2 hk) : False))
    clear k3 HF
    have y0 := R3.out.cellD 0 _ rfl
    have y1 := R3.out.cellD 1 _ rfl
    have y2 := R3.out.cellD 2 _ rfl
    go_wp2_with fail
    refine (gpart_any (some ⟨q, 0, none⟩) f1 c1 (by omega) (by omega) fr nn _).mono ?_
    rw [ofF_no SB2.out]
    rintro e w4 ⟨rfl, k4⟩
    simp only [rg0]
    have H4 := Lib.hid ((H3.out.later k4).alloc (.cells #[.pointer none, .int .i64 0, .int .i64 0] 27))
    have P4 := Lib.hid (Blk.new w4 [.pointer none, .int .i64 0, .int .i64 0] 27)
    have x0 := P4.out.cellD 0 _ rfl
    have x1 := P4.out.cellD 1 _ rfl
    have x2 := P4.out.cellD 2 _ rfl
    clear k4 H3 y0 y1 y2
    go_wp2_with fail
    refine (N2.out _ _).mono ?_
    rintro e w' ⟨rfl, rfl⟩
    go_wp2_with fail
    refine (N2.out _ _).mono ?_
    rintro e w' ⟨rfl, rfl⟩
    go_wp2_with fail
    refine (gsize_any none 0 0 (by decide) _).mono ?_
    rintro e w5 ⟨rfl, k5⟩
    have H5 := Lib.hid (H4.out.later k5)
    clear k5
    go_wp2
    go_ret
    exact ⟨by first | rfl | simp, H5.out.keeps.below (fun _ _ h => h)⟩
  have e3 : decide ((c1 : Int) < fr) = false := decide_eq_false k3
  have b1 : fr ≤ 5 := by omega
  by_cases k4 : (c1 : Int) - fr < nn
  · have e4 : decide ((c1 : Int) - fr < nn) = true := decide_eq_true k4
    -- the part is none
    have SB2 : Hid (someB fr nn c1 = false) := by unfold someB; exact decide_eq_false (by omega)
    go_enter Try.func3, Try.ntmps3
    go_wp2_with fail
    refine (alive3_any W).mono ?_
    rintro e w1 ⟨rfl, K1⟩
    have HK1 := Lib.hid K1
    clear K1
    go_wp2_with fail
    refine (NW.out _ HK1.out).mono ?_
    rintro e w2 ⟨q, L, rfl, hF⟩
    have HF := Lib.hid hF
    clear hF NW
    go_wp2_with fail
    refine (lgof HF.out f1 c1).mono ?_
    rw [ER.out, ofF_yes SB1.out, Int.zero_add]
    rintro e w3 ⟨rfl, k3⟩
    have H3 := Lib.hid ((HF.out.later k3).alloc (.cells #[.pointer (some ⟨q, 0, none⟩), .int .i64 f1, .int .i64 c1] 27))
    have R3 := Lib.hid (Blk.new w3 [.pointer (some ⟨q, 0, none⟩), .int .i64 f1, .int .i64 c1] 27)
    have NB := Lib.hid (fun k (hk : w3.heap.size ≤ k) (hO : L.O k) => (absurd ((HF.out.later k3).at_.lt k hO) (Nat.not_lt.2 hk) : False))
    clear k3 HF
    have y0 := R3.out.cellD 0 _ rfl
    have y1 := R3.out.cellD 1 _ rfl
    have y2 := R3.out.cellD 2 _ rfl
    go_wp2_with fail
    refine (gpart_any (some ⟨q, 0, none⟩) f1 c1 (by omega) (by omega) fr nn _).mono ?_
    rw [ofF_no SB2.out]
    rintro e w4 ⟨rfl, k4⟩
    simp only [rg0]
    have H4 := Lib.hid ((H3.out.later k4).alloc (.cells #[.pointer none, .int .i64 0, .int .i64 0] 27))
    have P4 := Lib.hid (Blk.new w4 [.pointer none, .int .i64 0, .int .i64 0] 27)
    have x0 := P4.out.cellD 0 _ rfl
    have x1 := P4.out.cellD 1 _ rfl
    have x2 := P4.out.cellD 2 _ rfl
    clear k4 H3 y0 y1 y2
    go_wp2_with fail
    refine (N2.out _ _).mono ?_
    rintro e w' ⟨rfl, rfl⟩
    go_wp2_with fail
    refine (N2.out _ _).mono ?_
    rintro e w' ⟨rfl, rfl⟩
    go_wp2_with fail
    refine (gsize_any none 0 0 (by decide) _).mono ?_
    rintro e w5 ⟨rfl, k5⟩
    have H5 := Lib.hid (H4.out.later k5)
    clear k5
    go_wp2
    go_ret
    exact ⟨by first | rfl | simp, H5.out.keeps.below (fun _ _ h => h)⟩
  have e4 : decide ((c1 : Int) - fr < nn) = false := decide_eq_false k4
  have SB2 : Hid (someB fr nn c1 = true) := decide_eq_true (by omega)
  obtain ⟨fr, rfl⟩ : ∃ f : Nat, fr = f := ⟨fr.toNat, by omega⟩
  obtain ⟨nn, rfl⟩ : ∃ c : Nat, nn = c := ⟨nn.toNat, by omega⟩
  obtain ⟨f2, hf2⟩ : ∃ x : Nat, f1 + fr = x := ⟨_, rfl⟩
  obtain ⟨K, hK⟩ : ∃ K, m / 8 = K := ⟨_, rfl⟩
  obtain ⟨mw, hmw⟩ : ∃ x, 8 * K = x := ⟨_, rfl⟩
  obtain ⟨p2, hp2⟩ : ∃ x, 1024 * f2 = x := ⟨_, rfl⟩
  obtain ⟨sz, hsz⟩ : ∃ x, 1024 * nn = x := ⟨_, rfl⟩
  have mwm : mw ≤ m := by omega
  have i1 : ((f1 : Int) + fr) = f2 := by omega
  have i2 : ((m : Int) / 8) = K := by omega
  have i3 : ((K : Int) * 8) = mw := by omega
  have hWL : (zs.take mw).length = mw := by rw [List.length_take, HB.out.len]; omega
  have hwb : ∀ z ∈ zs.take mw, 0 ≤ z ∧ z ≤ 255 := fun z hz => HB.out.byte z (List.mem_of_mem_take hz)
  obtain ⟨s1, q1, q2⟩ := PP.out f2 nn (zs.take mw) K (by omega) (by omega) (by rw [hWL, hmw]) (by omega) hwb
  have HW := Lib.hid (HB.out.take mwm)
  generalize hws : zs.take mw = ws at *
  rw [hWL, hp2] at q2
  have Q1 := Lib.hid q1
  have Q2 := Lib.hid q2
  have HWL := Lib.hid hWL
  obtain ⟨sw, hsw⟩ : ∃ s, strOf ws = s := ⟨_, rfl⟩
  have HSW := Lib.hid hsw
  have qs : (sw.toList == sw.toList) = true := by simp
  have j2 : IntKind.i64.wrap ((f1 : Int) + fr) = f2 := by rw [i1]; exact wrap_nat _ (by omega)
  have j3 : IntKind.i64.wrap ((f2 : Int) * 1024) = p2 := by rw [show (f2 : Int) * 1024 = (p2 : Int) by omega]; exact wrap_nat _ (by omega)
  have j4 : IntKind.i64.wrap ((nn : Int) * 1024) = sz := by rw [show (nn : Int) * 1024 = (sz : Int) by omega]; exact wrap_nat _ (by omega)
  have HP2 := Lib.hid hp2
  have HSZ := Lib.hid hsz
  have f25 : f2 + nn ≤ 256 := by omega
  have mw6 : mw ≤ 64 := by omega
  clear q1 q2 hWL hwb hsw hws hK hmw hf2 hp2 hsz PP
  go_enter Try.func3, Try.ntmps3
  go_wp2_with fail
  refine (alive3_any W).mono ?_
  rintro e w1 ⟨rfl, K1⟩
  have HK1 := Lib.hid K1
  clear K1
  go_wp2_with fail
  refine (NW.out _ HK1.out).mono ?_
  rintro e w2 ⟨q, L, rfl, hF⟩
  have HF := Lib.hid hF
  clear hF NW
  go_wp2_with fail
  refine (lgof HF.out f1 c1).mono ?_
  rw [ER.out, ofF_yes SB1.out, Int.zero_add]
  rintro e w3 ⟨rfl, k3⟩
  have H3 := Lib.hid ((HF.out.later k3).alloc (.cells #[.pointer (some ⟨q, 0, none⟩), .int .i64 f1, .int .i64 c1] 27))
  have R3 := Lib.hid (Blk.new w3 [.pointer (some ⟨q, 0, none⟩), .int .i64 f1, .int .i64 c1] 27)
  have NB := Lib.hid (fun k (hk : w3.heap.size ≤ k) (hO : L.O k) => (absurd ((HF.out.later k3).at_.lt k hO) (Nat.not_lt.2 hk) : False))
  clear k3 HF
  have y0 := R3.out.cellD 0 _ rfl
  have y1 := R3.out.cellD 1 _ rfl
  have y2 := R3.out.cellD 2 _ rfl
  go_wp2_with fail
  refine (gpart_any (some ⟨q, 0, none⟩) f1 c1 (by omega) (by omega) fr nn _).mono ?_
  rw [ofF_yes SB2.out]
  rintro e w4 ⟨rfl, k4⟩
  rw [i1]
  have H4 := Lib.hid ((H3.out.later k4).alloc (.cells #[.pointer (some ⟨q, 0, none⟩), .int .i64 f2, .int .i64 nn] 27))
  obtain ⟨rb, hrb⟩ : ∃ x, w4.heap.size = x := ⟨_, rfl⟩
  have P4 := Lib.hid (Blk.new w4 [.pointer (some ⟨q, 0, none⟩), .int .i64 f2, .int .i64 nn] 27)
  have NB4 := Lib.hid (NB.out w4.heap.size (Nat.le_trans (by simp) k4.size))
  rw [hrb] at P4 NB4
  have x0 := P4.out.cellD 0 _ rfl
  have x1 := P4.out.cellD 1 _ rfl
  have x2 := P4.out.cellD 2 _ rfl
  clear k4 H3 y0 y1 y2 NB
  go_wp2_with fail
  refine (N2.out _ _).mono ?_
  rintro e w' ⟨rfl, rfl⟩
  go_wp2_with fail
  refine (lgprogram (first := f2) (count := nn) H4.out f25 (Lb.arg HW.out H4.out.keeps H4.out.at_ H4.out.le) 0 (by rw [ST.out]; omega)).mono ?_
  rintro e w5 ⟨rfl, L5, h5, t5⟩
  rw [Q1.out] at h5 t5 ⊢
  have P5 := Lib.hid (t5.keeps.blk P4.out NB4.out)
  have H5 := Lib.hid h5
  have W5 := Lib.hid (HW.out.keeps h5.keeps (fun _ _ _ _ _ h => h))
  simp only [] at H5
  clear h5 t5 P4 H4 x0 x1 x2 hrb
  have PK := Lib.hid (fun w' (hk : Keeps None w5 w') => lpeek (H5.out.later hk) p2 mw)
  rw [Q2.out] at PK
  have CV := Lib.hid (fun w' (hk : Keeps None w5 w') => show (convert 22 9 (.slice A mw cap)).run Try.prog w' = .ok (.string sw) w' from HSW.out ▸ run_str (W5.out.keeps hk (fun _ _ _ _ _ h => h)))
  go_wp2
  obtain ⟨mS, mh⟩ : ∃ S : World → Prop, ∀ w', S w' ↔ (w'.cell? ⟨rb, 0, none⟩ = some (.pointer (some ⟨q, 0, none⟩)) ∧ w'.cell? ⟨rb, 1, none⟩ = some (.int .i64 f2) ∧ w'.cell? ⟨rb, 2, none⟩ = some (.int .i64 nn) ∧ ((convert 22 9 (.slice A mw cap)).run Try.prog w' = .ok (.string sw) w')) := ⟨_, fun _ => Iff.rfl⟩
  have mk0 : ∀ x : Memb mS, x.at_.cell? ⟨rb, 0, none⟩ = some (.pointer (some ⟨q, 0, none⟩)) := fun x => ((mh _).1 x.is).1
  have mk1 : ∀ x : Memb mS, x.at_.cell? ⟨rb, 1, none⟩ = some (.int .i64 f2) := fun x => ((mh _).1 x.is).2.1
  have mk2 : ∀ x : Memb mS, x.at_.cell? ⟨rb, 2, none⟩ = some (.int .i64 nn) := fun x => ((mh _).1 x.is).2.2.1
  have mk3 : ∀ x : Memb mS, (convert 22 9 (.slice A mw cap)).run Try.prog x.at_ = .ok (.string sw) x.at_ := fun x => ((mh _).1 x.is).2.2.2
  have mn : Nonempty (Memb mS) := ⟨⟨(w5).drew, (mh _).2 ⟨P5.out.cellD 0 _ rfl, P5.out.cellD 1 _ rfl, P5.out.cellD 2 _ rfl, CV.out _ (Keeps.refl None w5).drew⟩⟩⟩
  have mH := Lib.hid mh
  clear mh
  refine wp_region_mix [1, 5, 10, 23, 24] (InS mS) (by kernel_rfl) (by kernel_rfl) (InS.mk ((mH.out _).2 ⟨P5.out.cellD 0 _ rfl, P5.out.cellD 1 _ rfl, P5.out.cellD 2 _ rfl, CV.out _ (Keeps.refl None w5).drew⟩)) ?_
  refine wpMix_seg 1 (by kernel_rfl) (by decide) ?_
  simp only [List.take_succ_cons, List.take_zero, List.drop_succ_cons, List.drop_zero]
  repeat (first | go_big_quiet_step (fail) | (go_big_quiet_want; first | refine quiet_conv mk3 rfl rfl rfl (by simp only [Act.put, List.setIfInBounds_toArray, List.set_cons_succ, List.set_cons_zero]; rfl) ?_; go_big_quiet_on))
  refine wpQuiet_nil ?_
  refine wpMix_eff (by kernel_rfl) ?_
  go_wp2_with fail
  refine (N2.out _ _).mono ?_
  rintro e w' ⟨rfl, rfl⟩
  go_wp2
  refine MixK.on (InS.mk ((mH.out _).2 ⟨P5.out.cellD 0 _ rfl, P5.out.cellD 1 _ rfl, P5.out.cellD 2 _ rfl, CV.out _ (Keeps.refl None w5).drew⟩)) ?_
  refine wpMix_seg 3 (by kernel_rfl) (by decide) ?_
  simp only [List.take_succ_cons, List.take_zero, List.drop_succ_cons, List.drop_zero]
  repeat (first | go_big_quiet_step (fail) | (go_big_quiet_want; first | refine quiet_conv mk3 rfl rfl rfl (by simp only [Act.put, List.setIfInBounds_toArray, List.set_cons_succ, List.set_cons_zero]; rfl) ?_; go_big_quiet_on))
  refine wpQuiet_nil ?_
  refine wpMix_eff (by kernel_rfl) ?_
  go_wp2_with fail
  refine (N2.out _ _).mono ?_
  rintro e w' ⟨rfl, rfl⟩
  go_wp2
  refine MixK.on (InS.mk ((mH.out _).2 ⟨P5.out.cellD 0 _ rfl, P5.out.cellD 1 _ rfl, P5.out.cellD 2 _ rfl, CV.out _ (Keeps.refl None w5).drew⟩)) ?_
  refine wpMix_seg 4 (by kernel_rfl) (by decide) ?_
  simp only [List.take_succ_cons, List.take_zero, List.drop_succ_cons, List.drop_zero]
  repeat (first | go_big_quiet_step (fail) | (go_big_quiet_want; first | refine quiet_conv mk3 rfl rfl rfl (by simp only [Act.put, List.setIfInBounds_toArray, List.set_cons_succ, List.set_cons_zero]; rfl) ?_; go_big_quiet_on))
  refine wpQuiet_nil ?_
  refine wpMix_eff (by kernel_rfl) ?_
  go_wp2_with fail
  refine (gsize_any _ _ nn (by omega) _).mono ?_
  rintro e w7 ⟨rfl, k7⟩
  rw [HSZ.out]
  have K7 := Lib.hid ((Keeps.refl None w5).drew.trans k7 (T := None) (fun _ h => h) (fun _ _ h => h))
  have R7 := Lib.hid (k7.blk P5.out.drew (fun h => h))
  clear k7
  go_wp2
  refine MixK.on (InS.mk ((mH.out _).2 (⟨R7.out.cellD 0 _ rfl, R7.out.cellD 1 _ rfl, R7.out.cellD 2 _ rfl, CV.out _ K7.out⟩))) ?_
  refine wpMix_seg 12 (by kernel_rfl) (by decide) ?_
  simp only [List.take_succ_cons, List.take_zero, List.drop_succ_cons, List.drop_zero]
  repeat (first | go_big_quiet_step (fail) | (go_big_quiet_want; first | refine quiet_conv mk3 rfl rfl rfl (by simp only [Act.put, List.setIfInBounds_toArray, List.set_cons_succ, List.set_cons_zero]; rfl) ?_; go_big_quiet_on))
  refine wpQuiet_nil ?_
  refine wpMix_eff (by kernel_rfl) ?_
  go_wp2_with fail
  refine (PK.out _ K7.out).mono ?_
  rintro e w8 ⟨v8, rfl, o8, k8⟩
  obtain ⟨A8, c8, rfl, bs8⟩ := slice_of_own o8
  rw [HWL.out] at bs8 ⊢
  have K8 := Lib.hid (K7.out.trans k8 (T := None) (fun _ h => h) (fun _ _ h => h))
  have R8 := Lib.hid (k8.blk R7.out (fun h => h))
  have sc := run_str bs8
  rw [HSW.out] at sc
  clear o8 bs8 k8
  go_wp2
  refine MixK.on (InS.mk ((mH.out _).2 (⟨R8.out.cellD 0 _ rfl, R8.out.cellD 1 _ rfl, R8.out.cellD 2 _ rfl, CV.out _ K8.out⟩))) ?_
  refine wpMix_eff (by kernel_rfl) ?_
  go_wp2
  refine MixK.on (InS.mk ((mH.out _).2 (⟨R8.out.cellD 0 _ rfl, R8.out.cellD 1 _ rfl, R8.out.cellD 2 _ rfl, CV.out _ K8.out⟩))) ?_
  refine wpMix_seg 5 (by kernel_rfl) (by decide) ?_
  simp only [List.take_succ_cons, List.take_zero, List.drop_succ_cons, List.drop_zero]
  repeat (first | go_big_quiet_step (fail) | (go_big_quiet_want; first | refine quiet_conv mk3 rfl rfl rfl (by simp only [Act.put, List.setIfInBounds_toArray, List.set_cons_succ, List.set_cons_zero]; rfl) ?_; go_big_quiet_on))
  refine wpQuiet_nil ?_
  refine wpMix_nil ?_
  clear mk0 mk1 mk2 mk3 mn mH
  go_wp2
  go_ret
  exact ⟨by first | rfl | simp, (H5.out.later K8.out).keeps.below (fun _ _ h => h)⟩
set_option maxRecDepth 100000 in
theorem RegionParts_lifted (os : Os) (started : os.Started) (H : Type) (enc : TypeId × Value → H) :
    ReturnsInHanded {} Try.checked os 3 .any (Rows.regionPartsSpec.pre6 enc Try.prog Try.f3 Rows.regionPartsRow.domain false) (Rows.regionPartsSpec.post enc Try.prog Try.f3 false true false false) := by
  refine returnsInHanded_of_change (C := Try.checked) Try.own started (by kernel_rfl) Try.func3
    (ChangeSpec.witness6 (enc := enc) (C := Try.checked) false ⟨#[], #[.int .i64 0, .int .i64 0, .int .i64 0, .int .i64 0, .slice none 0 0], []⟩ 8 (by kernel_rfl) (by kernel_rfl) (by kernel_rfl) (by kernel_rfl)) ?_
  intro W base args ds gs before hval0 hW hcnd _
  have hval : ∀ (j : Nat) t v, Try.f3.params[j]? = some t → args[j]? = some v → Value.okWide Try.prog W .any base t v := hval0
  have hW' := hW
  obtain ⟨p, q, hA0, hV, rfl, hfz, hnd⟩ := hW
  have hA : DataW.TrodAll enc Try.prog W 0 (fun _ => true) true Try.f3.params.toList args.toList ds p := hA0
  rw [Try.params3] at hA hval
  obtain ⟨v0, vs0, d0, ds0, p0, q0, hargs, rfl, rfl, h0, r0⟩ := trodAll_cons hA
  obtain ⟨v1, vs1, d1, ds1, p1, q1, rfl, rfl, rfl, h1, r1⟩ := trodAll_cons r0
  obtain ⟨v2, vs2, d2, ds2, p2, q2, rfl, rfl, rfl, h2, r2⟩ := trodAll_cons r1
  obtain ⟨v3, vs3, d3, ds3, p3, q3, rfl, rfl, rfl, h3, r3⟩ := trodAll_cons r2
  obtain ⟨v4, vs4, d4, ds4, p4, q4, rfl, rfl, rfl, h4, r4⟩ := trodAll_cons r3
  obtain ⟨rfl, rfl, rfl⟩ := trodAll_nil r4
  obtain rfl : args = #[v0, v1, v2, v3, v4] := by cases args; simp_all
  obtain ⟨rfl, rfl⟩ := trodVars_none hV
  have k0 := h0
  have lt0 : ∀ x ∈ p0, x.block < W.heap.size := by obtain ⟨m, hm⟩ := k0; exact DataW.trod_lt m _ _ _ hm
  obtain ⟨a0, rfl, rfl, rfl, w0⟩ := open_int Try.underlying3 (hval 0 3 v0 rfl rfl) h0
  have k1 := h1
  have lt1 : ∀ x ∈ p1, x.block < W.heap.size := by obtain ⟨m, hm⟩ := k1; exact DataW.trod_lt m _ _ _ hm
  obtain ⟨a1, rfl, rfl, rfl, w1⟩ := open_int Try.underlying3 (hval 1 3 v1 rfl rfl) h1
  have k2 := h2
  have lt2 : ∀ x ∈ p2, x.block < W.heap.size := by obtain ⟨m, hm⟩ := k2; exact DataW.trod_lt m _ _ _ hm
  obtain ⟨a2, rfl, rfl, rfl, w2⟩ := open_int Try.underlying3 (hval 2 3 v2 rfl rfl) h2
  have k3 := h3
  have lt3 : ∀ x ∈ p3, x.block < W.heap.size := by obtain ⟨m, hm⟩ := k3; exact DataW.trod_lt m _ _ _ hm
  obtain ⟨a3, rfl, rfl, rfl, w3⟩ := open_int Try.underlying3 (hval 3 3 v3 rfl rfl) h3
  have k4 := h4
  have lt4 : ∀ x ∈ p4, x.block < W.heap.size := by obtain ⟨m, hm⟩ := k4; exact DataW.trod_lt m _ _ _ hm
  obtain ⟨a4, len4, cap4, rfl⟩ := okWide_slice Try.underlying22 (hval 4 22 v4 rfl rfl)
  obtain ⟨z4, s4⟩ := open_bs h4
  clear hA0 hval0
  refine (parts3_any a0 a1 a2 a3 a4 len4 cap4 z4 W s4).mono fun e W' ⟨he, bel⟩ => ?_
  subst he
  exact ⟨_, rfl, _, _, _, [], _, [], hW', trodAll_mk1 (shut_bool Try.underlying4 _), (trodAll_cons_mk (Below.trod Try.laidOut (by kernel_rfl) (of_decide_eq_true (by kernel_rfl)) k0 bel lt0) (trodAll_cons_mk (Below.trod Try.laidOut (by kernel_rfl) (of_decide_eq_true (by kernel_rfl)) k1 bel lt1) (trodAll_cons_mk (Below.trod Try.laidOut (by kernel_rfl) (of_decide_eq_true (by kernel_rfl)) k2 bel lt2) (trodAll_cons_mk (Below.trod Try.laidOut (by kernel_rfl) (of_decide_eq_true (by kernel_rfl)) k3 bel lt3) (trodAll_cons_mk (Below.trod Try.laidOut (by kernel_rfl) (of_decide_eq_true (by kernel_rfl)) k4 bel lt4) trodAll_mk0))))), rfl, bel.frame _, fun h => by cases h⟩

set_option maxRecDepth 100000 in
theorem RegionParts_closed : joinedFacts Try.checked.prog 3 Try.f3 Rows.regionPartsSpec Rows.regionPartsRow = true := by
  unfold joinedFacts
  rw [closed_laid, closed_maps, closed_heard, closed_plain, closed_mayEnter, closed_lifts, closed_make]
  kernel_rfl

theorem RegionParts_holds : Rows.RegionPartsSaid :=
  OpenClaim.holds_of_wide 3 Try.f3 rfl rfl rfl rfl rfl rfl rfl ⟨rfl, rfl, rfl, rfl, rfl⟩ rfl rfl rfl rfl rfl (by kernel_rfl) Try.func3 RegionParts_closed
    (of_decide_eq_true (by kernel_rfl)) (by unfold Func.isWrapper; first | (rw [if_pos (by decide +kernel)]; kernel_rfl) | (rw [if_neg (by decide +kernel)]; exact ⟨rfl, rfl⟩))
    (fun os started H enc _ => RegionParts_lifted os started H enc)
#print axioms RegionParts_holds
end Go.Proofs.Ytngofnlhbhfigaa
