/-
  For every filling, sector, number of steps and pick, the law FlashErases returns true: an erased sector is blank, one that was broken has risen, all others are as they were. No condition.
-/
import Derived.Test.YtngofnlhbhfigaaFlLaw
import Derived.Test.YtngofnlhbhfigaaNorHalf
import Derived.Test.YtngofnlhbhfigaaFrame
import Derived.Test.YtngofnlhbhfigaaInit
namespace Go.Proofs.Ytngofnlhbhfigaa
open Go.RowKit Go.ChangeShapes Go.WideShapes Go.ChangeAt

/-- Bytes that repeat, the first j. -/
def repTo (zs : List Int) (j : Nat) : List Int := (List.range j).map fun i => zs.getD (i % zs.length) 0
theorem repTo_len (zs : List Int) (j : Nat) : (repTo zs j).length = j := by simp [repTo]
theorem repTo_succ (zs : List Int) (j : Nat) : repTo zs (j + 1) = repTo zs j ++ [zs.getD (j % zs.length) 0] := by simp [repTo, List.range_succ]
theorem splice_all (L X : List Int) (h : X.length = L.length) : splice L 0 X = X := by
  simp only [splice, List.take_zero, List.nil_append]
  rw [List.drop_of_length_le (by omega), List.append_nil]
theorem splice_lo (L X : List Int) (p k : Nat) (hk : k ≤ p) (h : p ≤ L.length) : (splice L p X).take k = L.take k := by
  simp only [splice]
  rw [List.take_append_of_le_length (by rw [List.length_take]; omega), List.take_take, Nat.min_eq_left hk]

theorem blankB_rep (n : Nat) : blankB (List.replicate n 255) = true := by
  simp only [blankB, decide_eq_true_eq]
  intro i hi
  rw [List.length_replicate] at hi
  simp [List.getD, hi]
/-- What the law's calls come to. -/
theorem erases_plain (old ps : List Int) (k : Nat) (hk : k ≤ 2) (after : Int) (h0 : 0 ≤ after) (hb : ∀ z ∈ old, 0 ≤ z ∧ z ≤ 255) (hp : ∀ z ∈ ps, 0 ≤ z ∧ z ≤ 255) (hl : old.length = 3072) :
    ∃ (s1 s2 s3 : FS) (e : Int) (Y : List Int), (newF 3).spoilF 0 old = (s1, 0) ∧ s1.armF after ps = s2 ∧ s2.eraseF k = (s3, e) ∧ s3.b = splice old (1024 * k) Y ∧ Y.length = 1024 ∧ s3.erasesF k = 1 ∧ s2.steps = 0 ∧ (∀ i, s2.er.getD i 0 = 0) ∧ (∀ z ∈ Y, 0 ≤ z ∧ z ≤ 255) ∧
      ((0 < after ∧ e = 0 ∧ blankB Y = true) ∨ (after = 0 ∧ e = 5 ∧ s3.dark = true ∧ canN Y ((old.drop (1024 * k)).take 1024) = true)) := by
  have hn : newF 3 = { b := List.replicate 3072 255, er := [0, 0, 0], steps := 0, left := -1, pick := [], dark := false } := rfl
  have hrl : (List.replicate 3072 (255 : Int)).length = 3072 := List.length_replicate
  rw [hn]
  generalize List.replicate 3072 (255 : Int) = bl at *
  have hsp : ({ b := bl, er := [0, 0, 0], steps := 0, left := -1, pick := [], dark := false } : FS).spoilF 0 old = ({ b := old, er := [0, 0, 0], steps := 0, left := -1, pick := [], dark := false }, 0) := by
    unfold FS.spoilF
    have hw : withinB 0 old.length bl.length = true := decide_eq_true ⟨by decide, by omega, by omega, by omega⟩
    show (if withinB 0 old.length bl.length = true then _ else _) = _
    rw [if_pos hw]
    show (({ b := splice bl 0 old, er := [0, 0, 0], steps := 0, left := -1, pick := [], dark := false } : FS), (0 : Int)) = _
    rw [splice_all bl old (by omega)]
  have har : ({ b := old, er := [0, 0, 0], steps := 0, left := -1, pick := [], dark := false } : FS).armF after ps = { b := old, er := [0, 0, 0], steps := 0, left := after, pick := ps, dark := false } := by
    unfold FS.armF; rw [if_neg (by omega)]
  have hek : ([0, 0, 0] : List Int).getD k 0 = 0 ∧ (([0, 0, 0] : List Int).set k 1).getD k 0 = 1 := by
    match k, hk with
    | 0, _ => decide
    | 1, _ => decide
    | 2, _ => decide
  have her : ∀ (s : FS), s.er = ([0, 0, 0] : List Int).set k 1 → s.erasesF k = 1 := by
    intro s hs
    unfold FS.erasesF
    rw [hs, if_neg (by rw [List.length_set]; simp; omega), Int.toNat_natCast]
    exact hek.2
  have hz : ∀ i, ([0, 0, 0] : List Int).getD i 0 = 0 := by
    intro i
    match i with
    | 0 => rfl
    | 1 => rfl
    | 2 => rfl
    | i + 3 => simp
  have hc1 : ((old.drop (1024 * k)).take 1024).length = 1024 := by rw [List.length_take, List.length_drop]; omega
  have hcb : ∀ z ∈ (old.drop (1024 * k)).take 1024, 0 ≤ z ∧ z ≤ 255 := fun z hz => hb z (List.mem_of_mem_drop (List.mem_of_mem_take hz))
  by_cases h : after = 0
  · refine ⟨_, _, { b := splice old (1024 * k) (halfN ((old.drop (1024 * k)).take 1024) ps), er := ([0, 0, 0] : List Int).set k 1, steps := 1, left := -1, pick := [], dark := true }, 5, halfN ((old.drop (1024 * k)).take 1024) ps, hsp, har, ?_, rfl, by rw [halfN_length]; exact hc1, her _ rfl, rfl, hz, halfN_byte hcb hp, .inr ⟨h, rfl, rfl, canN_half hcb hp⟩⟩
    unfold FS.eraseF
    rw [if_neg (by show ¬ false = true; decide), if_neg (by show ¬ ((k : Int) < 0 ∨ (3 : Int) ≤ k); omega), if_pos h]
    subst h
    show (({ b := _, er := ([0, 0, 0] : List Int).set k (([0, 0, 0] : List Int).getD k 0 + 1), steps := 0 + 1, left := -1, pick := [], dark := true } : FS), (5 : Int)) = _
    rw [hek.1]; rfl
  · refine ⟨_, _, { b := splice old (1024 * k) (List.replicate 1024 255), er := ([0, 0, 0] : List Int).set k 1, steps := 1, left := after - 1, pick := ps, dark := false }, 0, List.replicate 1024 255, hsp, har, ?_, rfl, List.length_replicate, her _ rfl, rfl, hz, (by intro z hz; rw [(List.mem_replicate.1 hz).2]; decide), .inl ⟨by omega, rfl, ?_⟩⟩
    · unfold FS.eraseF
      rw [if_neg (by show ¬ false = true; decide), if_neg (by show ¬ ((k : Int) < 0 ∨ (3 : Int) ≤ k); omega), if_neg h]
      have : (({ b := old, er := [0, 0, 0], steps := 0, left := after, pick := ps, dark := false } : FS).erased (k : Int).toNat).stepped = { b := old, er := ([0, 0, 0] : List Int).set k 1, steps := 1, left := after - 1, pick := ps, dark := false } := by
        unfold FS.stepped
        show (if after < 0 then _ else if after = 0 then _ else _) = _
        rw [if_neg (by omega), if_neg h]
        show (({ b := old, er := ([0, 0, 0] : List Int).set k (([0, 0, 0] : List Int).getD k 0 + 1), steps := 0 + 1, left := after - 1, pick := ps, dark := false } : FS)) = _
        rw [hek.1]; rfl
      rw [this, Int.toNat_natCast]
    · exact blankB_rep 1024

set_option maxRecDepth 100000 in
set_option maxHeartbeats 3200000 in
theorem erases2_any (A1 A2 : Option Addr) (n cap m cap2 : Nat) (zs ps : List Int) (sector after : Int) (W : World) (hax : after ≤ 9223372036854775807) (h : Bs W A1 n cap zs) (h2 : Bs W A2 m cap2 ps) :
    Calls Try.prog 6 #[.slice A1 n cap, .int .i64 sector, .int .i64 after, .slice A2 m cap2] W fun e w' => e = .returned (.bool true) ∧ Below W.heap.size W w' := by
  have hle := h.le
  have hmx := h.max
  have hle2 := h2.le
  have hmx2 := h2.max
  by_cases g1 : n < 1
  · have d1 : decide ((n : Int) < 1) = true := decide_eq_true (by omega)
    clear h h2
    go_enter Try.func6, Try.ntmps6
    go_wp2_with fail
    refine (alive2_any W).mono ?_
    rintro e w1 ⟨rfl, K1⟩
    go_wp2
    go_ret
    exact ⟨rfl, K1.below (fun _ _ h => h)⟩
  have d1 : decide ((n : Int) < 1) = false := decide_eq_false (by omega)
  by_cases g2 : 300 < n
  · have d2 : decide (300 < (n : Int)) = true := decide_eq_true (by omega)
    clear h h2
    go_enter Try.func6, Try.ntmps6
    go_wp2_with fail
    refine (alive2_any W).mono ?_
    rintro e w1 ⟨rfl, K1⟩
    go_wp2
    go_ret
    exact ⟨rfl, K1.below (fun _ _ h => h)⟩
  have d2 : decide (300 < (n : Int)) = false := decide_eq_false (by omega)
  by_cases g3 : sector < 0
  · have d3 : decide (sector < 0) = true := decide_eq_true g3
    clear h h2
    go_enter Try.func6, Try.ntmps6
    go_wp2_with fail
    refine (alive2_any W).mono ?_
    rintro e w1 ⟨rfl, K1⟩
    go_wp2
    go_ret
    exact ⟨rfl, K1.below (fun _ _ h => h)⟩
  have d3 : decide (sector < 0) = false := decide_eq_false g3
  by_cases g4 : 2 < sector
  · have d4 : decide (2 < sector) = true := decide_eq_true g4
    clear h h2
    go_enter Try.func6, Try.ntmps6
    go_wp2_with fail
    refine (alive2_any W).mono ?_
    rintro e w1 ⟨rfl, K1⟩
    go_wp2
    go_ret
    exact ⟨rfl, K1.below (fun _ _ h => h)⟩
  have d4 : decide (2 < sector) = false := decide_eq_false g4
  by_cases g5 : after < 0
  · have d5 : decide (after < 0) = true := decide_eq_true g5
    clear h h2
    go_enter Try.func6, Try.ntmps6
    go_wp2_with fail
    refine (alive2_any W).mono ?_
    rintro e w1 ⟨rfl, K1⟩
    go_wp2
    go_ret
    exact ⟨rfl, K1.below (fun _ _ h => h)⟩
  have d5 : decide (after < 0) = false := decide_eq_false g5
  by_cases g6 : 1024 < m
  · have d6 : decide (1024 < (m : Int)) = true := decide_eq_true (by omega)
    clear h h2
    go_enter Try.func6, Try.ntmps6
    go_wp2_with fail
    refine (alive2_any W).mono ?_
    rintro e w1 ⟨rfl, K1⟩
    go_wp2
    go_ret
    exact ⟨rfl, K1.below (fun _ _ h => h)⟩
  have d6 : decide (1024 < (m : Int)) = false := decide_eq_false (by omega)
  obtain ⟨k, rfl⟩ : ∃ k : Nat, sector = k := ⟨sector.toNat, by omega⟩
  have hk2 : k ≤ 2 := by omega
  have hby : ∀ z ∈ repTo zs 3072, 0 ≤ z ∧ z ≤ 255 := by
    intro z hz
    obtain ⟨i, _, rfl⟩ := List.mem_map.1 hz
    exact byte_getD h.byte _
  obtain ⟨s1, s2, s3, er, Y, p1, p2, p3, p4, p5, p6, p7, p8, p9, p10⟩ := erases_plain (repTo zs 3072) ps k hk2 after (by omega) hby h2.byte (repTo_len _ _)
  have HREP := Lib.hid (fun j => repTo_succ zs j)
  have HRL := Lib.hid (fun j => repTo_len zs j)
  have HZL := Lib.hid h.len
  obtain ⟨K, hK⟩ : ∃ K, 1024 * k = K := ⟨_, rfl⟩
  obtain ⟨kk, hkk⟩ : ∃ kk, K + 1024 = kk := ⟨_, rfl⟩
  have kb : kk ≤ 3072 := by omega
  have kc : K < kk := by omega
  have k1 : (1024 * (k : Int)) = K := by omega
  have k2 : ((K : Int) + 1024) = kk := by omega
  rw [hK] at p4 p10
  have HB := Lib.hid h
  have HP := Lib.hid h2
  have P1 := Lib.hid p1
  have P2 := Lib.hid p2
  have P3 := Lib.hid p3
  have P4 := Lib.hid p4
  have P5 := Lib.hid p5
  have P6 := Lib.hid p6
  have P7 := Lib.hid p7
  have P8 := Lib.hid p8
  have P9 := Lib.hid p9
  have P10 := Lib.hid p10
  have HK := Lib.hid hK
  have HKK := Lib.hid hkk
  have N2 := Lib.hid num2_any
  have NW := Lib.hid (fun w (hk : Keeps None W w) => lnew hk 3)
  clear p1 p2 p3 p4 p5 p6 p7 p8 p9 p10 hK hkk h h2 hby
  generalize newF 3 = f0 at *
  go_enter Try.func6, Try.ntmps6
  go_wp2_with fail
  refine (alive2_any W).mono ?_
  rintro e w1 ⟨rfl, K1⟩
  have HK1 := Lib.hid K1
  clear K1
  go_wp2_with fail
  refine (NW.out _ HK1.out).mono ?_
  rintro e w2 ⟨q, L, rfl, hF⟩
  have HF := Lib.hid hF
  clear hF NW
  go_wp2
  go_loopw [11, 12] (fun ov iv wr => ∃ j : Nat, j ≤ 3072 ∧ iv = .int .i64 j ∧ Own wr w2.heap.size ov (repTo zs j) ∧ Keeps None w2 wr) (fun _ iv _ => 3072 - (intOf iv).toNat)
  case atStart => exact ⟨0, by omega, rfl, Own.nil _ _, Keeps.refl _ _⟩
  case round =>
    obtain ⟨j, hj, rfl, hO, hKr⟩ := hrel
    obtain ⟨wv, rfl⟩ : ∃ x, x = wr := ⟨_, rfl⟩
    obtain ⟨A3, c3, rfl, bs3, -⟩ := hO.shape
    rw [HRL.out] at bs3 hO ⊢
    have HO := Lib.hid hO
    have HKr := Lib.hid hKr
    have l3 := bs3.le
    have m3 := bs3.max
    clear hO hKr bs3
    by_cases hlt : j < 3072
    · obtain ⟨r, hr⟩ : ∃ r, j % n = r := ⟨_, rfl⟩
      have hrn : r < n := by rw [← hr]; exact Nat.mod_lt _ (by omega)
      have e1 : ((j : Int) % n) = r := by omega
      have F3 := Lib.hid (HF.out.later HKr.out)
      obtain ⟨bb, bo, z, rfl, hz, za, zb, hc⟩ := (HB.out.keeps F3.out.keeps (fun _ _ _ _ _ h => h)).get hrn
      have HZ : Hid (zs.getD (j % zs.length) 0 = z) := by show _ = z; rw [HZL.out, hr]; exact hz
      clear hr hz
      go_wp2_with (at_builtin; refine Hid.out ?_)
      refine Lib.hid ?_
      refine wpList_append_bs (HO.out.alloc _) (Bs.oneAt _ _ rfl z ⟨za, zb⟩) (by rw [HRL.out]; omega) (Nat.le_trans HKr.out.size (by simp)) rfl rfl rfl rfl rfl ?_
      intro v4 w4 ho4 hk4
      have O4 : Hid (Own w4 w2.heap.size v4 (repTo zs (j + 1))) := by show Own _ _ _ _; rw [HREP.out, HZ.out]; exact ho4
      have K4 := Lib.hid ((HKr.out.alloc (.cells #[.int .u8 z] 5)).trans hk4 (T := None) (fun _ h => h) (fun i hi e => absurd e (HO.out.notBelow hi)))
      clear ho4 hk4
      go_wp2
      go_roundw
      case rel => exact ⟨j + 1, hlt, by go_num, O4.out, K4.out⟩
      case measure => simp [intOf]; omega
    · obtain rfl : j = 3072 := by omega
      have hL3 := HRL.out 3072
      have F3 := Lib.hid (HF.out.later HKr.out)
      obtain ⟨M, hM⟩ : ∃ M : Nat, M = 3072 := ⟨_, rfl⟩
      have Q3 : Hid (Lb wv L A3 3072 c3 (repTo zs 3072)) := ⟨ownBs HO.out, fun b off h0 e hOO => by
        have h1 := HF.out.at_.lt b hOO
        subst e
        exact HO.out.notBelow h1 rfl⟩
      generalize repTo zs 3072 = old at *
      have HOL := Lib.hid hL3
      clear hL3 HO HREP HRL HZL hlt hj hM
      go_wp2_with fail
      refine (lspoil F3.out Q3.out.bs 0).mono ?_
      rintro e w4 ⟨rfl, L4, h4, t4⟩
      rw [P1.out] at h4 t4 ⊢
      have H4 := Lib.hid h4
      have Q4 := Lib.hid (Q3.out.turn t4)
      simp only [] at H4 Q4
      clear h4 t4 F3 Q3 HF HKr
      go_wp2_with fail
      refine (larm H4.out (HP.out.keeps H4.out.keeps (fun _ _ _ _ _ h => h)) (by omega) after hax).mono ?_
      rintro e w5 ⟨rfl, L5, h5, t5⟩
      rw [P2.out] at h5 t5
      have H5 := Lib.hid h5
      have Q5 := Lib.hid (Q4.out.turn t5)
      clear h5 t5 H4 Q4
      go_wp2_with fail
      refine (lerase H5.out k (by rw [P7.out]; decide) (fun i => by rw [P8.out]; decide)).mono ?_
      rintro e w6 ⟨rfl, L6, h6, t6⟩
      rw [P3.out] at h6 t6 ⊢
      have H6 := Lib.hid h6
      have Q6 := Lib.hid (Q5.out.turn t6)
      simp only [] at H6 Q6
      clear h6 t6 H5 Q5
      have XL : Hid (s3.b.length = 3072) := by show s3.b.length = 3072; rw [P4.out, splice_len _ _ _ (by rw [P5.out, HOL.out]; have := HKK.out; omega)]; exact HOL.out
      have PK : Hid (s3.peekF 0 3072 = s3.b) := by
        show s3.peekF 0 3072 = s3.b
        unfold FS.peekF
        rw [XL.out, if_pos (by decide)]
        show (s3.b.drop 0).take 3072 = _
        rw [List.drop_zero, List.take_of_length_le (by rw [XL.out]; exact Nat.le_refl _)]
      go_wp2_with fail
      refine (lsize H6.out).mono ?_
      rintro e w' ⟨rfl, rfl⟩
      rw [XL.out]
      go_wp2_with fail
      refine (lpeek H6.out 0 3072).mono ?_
      rintro e w9 ⟨v9, rfl, o9, k9⟩
      rw [PK.out] at o9
      obtain ⟨A9, c9, rfl, -⟩ := slice_of_own o9
      rw [XL.out] at o9 ⊢
      have R9 := Lib.hid (Lb.new H6.out.at_ o9)
      have H9 := Lib.hid (H6.out.later k9)
      have Q9 := Lib.hid (Q6.out.later k9)
      have l9 := R9.out.bs.le
      have m9 := R9.out.bs.max
      clear o9 k9 H6 Q6
      have EX1 : Hid (s3.b.take K = old.take K) := by show _ = _; rw [P4.out]; exact splice_lo _ _ _ _ (Nat.le_refl _) (by rw [HOL.out]; omega)
      have EX2 : Hid (s3.b.drop kk = old.drop kk) := by show _ = _; rw [P4.out]; exact splice_drop _ _ _ _ (by rw [P5.out]; have := HKK.out; omega) (by rw [P5.out, HOL.out]; have := HKK.out; omega)
      have EX3 : Hid ((s3.b.drop K).take 1024 = Y) := by
        show _ = _
        have := splice_mid old Y K (by rw [P5.out, HOL.out]; have := HKK.out; omega)
        rw [P4.out]; rwa [P5.out] at this
      generalize s3.b = x at *
      go_wp2_with fail
      refine (N2.out _ _).mono ?_
      rintro e w' ⟨rfl, rfl⟩
      go_wp2_with fail
      refine (lerases H9.out k).mono ?_
      rintro e w' ⟨rfl, rfl⟩
      rw [P6.out]
      obtain ⟨b9, o9, rfl, -, -⟩ := R9.out.bs.at_ (by omega)
      obtain ⟨b3, o3, rfl, -, -⟩ := Q9.out.bs.at_ (by omega)
      go_wp2
      by_cases hcx : c9 = kk
      · obtain rfl : kk = 3072 := by omega
        obtain rfl : K = 2048 := by have := HKK.out; omega
        subst hcx
        have hcx : True := trivial
        by_cases hco : c3 = 3072
        · subst hco
          have hco : True := trivial
          -- some ⟨b9, o9, none⟩: where x goes on behind the sector, some ⟨b3, o3, none⟩: where old does; 0, 0: their room
          have XD := Lib.hid (show Bs w9 (some ⟨b9, o9, none⟩) (0) (0) (x.drop 3072) from by have := R9.out.bs.dropIf (k := 3072) (by omega); simpa [hcx] using this)
          have OD := Lib.hid (show Bs w9 (some ⟨b3, o3, none⟩) (0) (0) (old.drop 3072) from by have := Q9.out.bs.dropIf (k := 3072) (by omega); simpa [hco] using this)
          have XT := Lib.hid (R9.out.bs.take (k := 2048) (by omega))
          have OT := Lib.hid (Q9.out.bs.take (k := 2048) (by omega))
          have V1 := Lib.hid (run_str XT.out.drew)
          have V2 := Lib.hid (run_str OT.out.drew)
          have V3 := Lib.hid (run_str XD.out.drew)
          have V4 := Lib.hid (run_str OD.out.drew)
          rw [EX1.out] at V1
          rw [EX2.out] at V3
          obtain ⟨sa, hsa⟩ : ∃ s, strOf (old.take 2048) = s := ⟨_, rfl⟩
          obtain ⟨sb, hsb⟩ : ∃ s, strOf (old.drop 3072) = s := ⟨_, rfl⟩
          rw [hsa] at V1 V2
          rw [hsb] at V3 V4
          have qa : (sa.toList != sa.toList) = false := by simp
          have qb : (sb.toList != sb.toList) = false := by simp
          have qa' : (sa.toList == sa.toList) = true := by simp
          have qb' : (sb.toList == sb.toList) = true := by simp
          have i1 : IntKind.i64.wrap ((2048 : Int) + 1024) = (3072 : Nat) := by first | rfl | (rw [k2]; exact wrap_nat _ (by omega))
          clear hsa hsb
          obtain ⟨mS, mh⟩ : ∃ S : World → Prop, ∀ w', S w' ↔ (((convert 22 9 (.slice (some ⟨b9, o9, none⟩) 2048 (3072))).run Try.prog w' = .ok (.string sa) w') ∧ ((convert 22 9 (.slice (some ⟨b3, o3, none⟩) 2048 (3072))).run Try.prog w' = .ok (.string sa) w') ∧ ((convert 22 9 (.slice (some ⟨b9, o9, none⟩) (0) (0))).run Try.prog w' = .ok (.string sb) w') ∧ ((convert 22 9 (.slice (some ⟨b3, o3, none⟩) (0) (0))).run Try.prog w' = .ok (.string sb) w')) := ⟨_, fun _ => Iff.rfl⟩
          have mk0 : ∀ x : Memb mS, (convert 22 9 (.slice (some ⟨b9, o9, none⟩) 2048 (3072))).run Try.prog x.at_ = .ok (.string sa) x.at_ := fun x => ((mh _).1 x.is).1
          have mk1 : ∀ x : Memb mS, (convert 22 9 (.slice (some ⟨b3, o3, none⟩) 2048 (3072))).run Try.prog x.at_ = .ok (.string sa) x.at_ := fun x => ((mh _).1 x.is).2.1
          have mk2 : ∀ x : Memb mS, (convert 22 9 (.slice (some ⟨b9, o9, none⟩) (0) (0))).run Try.prog x.at_ = .ok (.string sb) x.at_ := fun x => ((mh _).1 x.is).2.2.1
          have mk3 : ∀ x : Memb mS, (convert 22 9 (.slice (some ⟨b3, o3, none⟩) (0) (0))).run Try.prog x.at_ = .ok (.string sb) x.at_ := fun x => ((mh _).1 x.is).2.2.2
          have mn : Nonempty (Memb mS) := ⟨⟨(w9).drew, (mh _).2 ⟨V1.out, V2.out, V3.out, V4.out⟩⟩⟩
          have mH := Lib.hid mh
          clear mh
          refine wp_region_mix [] (InS mS) (by kernel_rfl) (by kernel_rfl) (InS.mk ((mH.out _).2 ⟨V1.out, V2.out, V3.out, V4.out⟩)) ?_
          refine wpMix_seg 22 (by kernel_rfl) (by decide) ?_
          simp only [List.take_succ_cons, List.take_zero, List.drop_succ_cons, List.drop_zero]
          repeat (first | go_big_quiet_step (fail) | (go_big_quiet_want; first | refine quiet_conv mk0 rfl rfl rfl (by simp only [Act.put, List.setIfInBounds_toArray, List.set_cons_succ, List.set_cons_zero]; rfl) ?_; go_big_quiet_on | refine quiet_conv mk1 rfl rfl rfl (by simp only [Act.put, List.setIfInBounds_toArray, List.set_cons_succ, List.set_cons_zero]; rfl) ?_; go_big_quiet_on | refine quiet_conv mk2 rfl rfl rfl (by simp only [Act.put, List.setIfInBounds_toArray, List.set_cons_succ, List.set_cons_zero]; rfl) ?_; go_big_quiet_on | refine quiet_conv mk3 rfl rfl rfl (by simp only [Act.put, List.setIfInBounds_toArray, List.set_cons_succ, List.set_cons_zero]; rfl) ?_; go_big_quiet_on))
          refine wpQuiet_nil ?_
          refine wpMix_nil ?_
          clear mk0 mk1 mk2 mk3 mn mH
          have hL : 3072 - 2048 = 1024 := by have := HKK.out; omega
          have hL2 : 2048 + 1024 - 2048 = 1024 := by omega
          have YB := Lib.hid (show Bs w9 (some ⟨b9, o9 + 2048, none⟩) 1024 (3072 - 2048) Y from by rw [← EX3.out]; exact Bs.take (k := 1024) (R9.out.bs.drop (k := 2048) (by omega)) (by omega))
          have OB := Lib.hid (show Bs w9 (some ⟨b3, o3 + 2048, none⟩) 1024 (3072 - 2048) ((old.drop 2048).take 1024) from Bs.take (k := 1024) (Q9.out.bs.drop (k := 2048) (by omega)) (by omega))
          have nK9 : ¬ 3072 = 2048 := by omega
          have nK3 : ¬ 3072 = 2048 := by omega
          clear XD OD XT OT V1 V2 V3 V4 qa qb qa' qb' i1
          rcases P10.out with ⟨q1, rfl, qb⟩ | ⟨rfl, rfl, qd, qc⟩
          · have e0 : decide (0 < after) = true := decide_eq_true q1
            have IB := Lib.hid (isBlank_any _ _ _ _ _ YB.out.drew)
            rw [qb] at IB
            clear qb
            go_wp2_with fail
            refine (N2.out _ _).mono ?_
            rintro e w' ⟨rfl, rfl⟩
            go_wp2_with fail
            refine IB.out.mono ?_
            rintro e w' ⟨rfl, rfl⟩
            go_wp2
            go_ret
            exact ⟨by first | rfl | simp, H9.out.drew.keeps.below (fun _ _ h => h)⟩
          · have e0 : decide ((0 : Int) < 0) = false := rfl
            have RS := Lib.hid (risen_any _ _ _ _ _ _ _ _ _ OB.out.drew.drew YB.out.drew.drew)
            rw [qc] at RS
            have OF := Lib.hid (loff H9.out.drew.drew)
            rw [qd] at OF
            have i2 : IntKind.i64.wrap ((2048 : Int) + 1024) = (3072 : Nat) := by first | rfl | (rw [k2]; exact wrap_nat _ (by omega))
            clear qc qd
            go_wp2
            obtain ⟨mS, mh⟩ : ∃ S : World → Prop, ∀ w', S w' ↔ (True) := ⟨_, fun _ => Iff.rfl⟩
            have mn : Nonempty (Memb mS) := ⟨⟨(w9.drew).drew, (mh _).2 trivial⟩⟩
            have mH := Lib.hid mh
            clear mh
            refine wp_region_mix [1, 5, 18] (InS mS) (by kernel_rfl) (by kernel_rfl) (InS.mk ((mH.out _).2 trivial)) ?_
            refine wpMix_seg 1 (by kernel_rfl) (by decide) ?_
            simp only [List.take_succ_cons, List.take_zero, List.drop_succ_cons, List.drop_zero]
            repeat (go_big_quiet_step (fail))
            refine wpQuiet_nil ?_
            refine wpMix_eff (by kernel_rfl) ?_
            go_wp2_with fail
            refine (N2.out _ _).mono ?_
            rintro e w' ⟨rfl, rfl⟩
            go_wp2
            refine MixK.on (InS.mk ((mH.out _).2 trivial)) ?_
            refine wpMix_seg 3 (by kernel_rfl) (by decide) ?_
            simp only [List.take_succ_cons, List.take_zero, List.drop_succ_cons, List.drop_zero]
            repeat (go_big_quiet_step (fail))
            refine wpQuiet_nil ?_
            refine wpMix_eff (by kernel_rfl) ?_
            go_wp2_with fail
            refine OF.out.mono ?_
            rintro e w' ⟨rfl, rfl⟩
            go_wp2
            refine MixK.on (InS.mk ((mH.out _).2 trivial)) ?_
            refine wpMix_seg 12 (by kernel_rfl) (by decide) ?_
            simp only [List.take_succ_cons, List.take_zero, List.drop_succ_cons, List.drop_zero]
            repeat (go_big_quiet_step (fail))
            refine wpQuiet_nil ?_
            refine wpMix_eff (by kernel_rfl) ?_
            go_wp2_with fail
            refine RS.out.mono ?_
            rintro e w10 ⟨rfl, m10, rfl⟩
            go_wp2
            refine MixK.on (InS.mk ((mH.out _).2 trivial)) ?_
            refine wpMix_seg 2 (by kernel_rfl) (by decide) ?_
            simp only [List.take_succ_cons, List.take_zero, List.drop_succ_cons, List.drop_zero]
            repeat (go_big_quiet_step (fail))
            refine wpQuiet_nil ?_
            refine wpMix_nil ?_
            clear  mn mH
            go_wp2
            go_ret
            exact ⟨by first | rfl | simp, (H9.out.drewN _).keeps.below (fun _ _ h => h)⟩
        ·
          -- some ⟨b9, o9, none⟩: where x goes on behind the sector, some ⟨b3, o3 + 3072, none⟩: where old does; 0, c3 - 3072: their room
          have XD := Lib.hid (show Bs w9 (some ⟨b9, o9, none⟩) (0) (0) (x.drop 3072) from by have := R9.out.bs.dropIf (k := 3072) (by omega); simpa [hcx] using this)
          have OD := Lib.hid (show Bs w9 (some ⟨b3, o3 + 3072, none⟩) (0) (c3 - 3072) (old.drop 3072) from by have := Q9.out.bs.dropIf (k := 3072) (by omega); simpa [hco] using this)
          have XT := Lib.hid (R9.out.bs.take (k := 2048) (by omega))
          have OT := Lib.hid (Q9.out.bs.take (k := 2048) (by omega))
          have V1 := Lib.hid (run_str XT.out.drew)
          have V2 := Lib.hid (run_str OT.out.drew)
          have V3 := Lib.hid (run_str XD.out.drew)
          have V4 := Lib.hid (run_str OD.out.drew)
          rw [EX1.out] at V1
          rw [EX2.out] at V3
          obtain ⟨sa, hsa⟩ : ∃ s, strOf (old.take 2048) = s := ⟨_, rfl⟩
          obtain ⟨sb, hsb⟩ : ∃ s, strOf (old.drop 3072) = s := ⟨_, rfl⟩
          rw [hsa] at V1 V2
          rw [hsb] at V3 V4
          have qa : (sa.toList != sa.toList) = false := by simp
          have qb : (sb.toList != sb.toList) = false := by simp
          have qa' : (sa.toList == sa.toList) = true := by simp
          have qb' : (sb.toList == sb.toList) = true := by simp
          have i1 : IntKind.i64.wrap ((2048 : Int) + 1024) = (3072 : Nat) := by first | rfl | (rw [k2]; exact wrap_nat _ (by omega))
          clear hsa hsb
          obtain ⟨mS, mh⟩ : ∃ S : World → Prop, ∀ w', S w' ↔ (((convert 22 9 (.slice (some ⟨b9, o9, none⟩) 2048 (3072))).run Try.prog w' = .ok (.string sa) w') ∧ ((convert 22 9 (.slice (some ⟨b3, o3, none⟩) 2048 (c3))).run Try.prog w' = .ok (.string sa) w') ∧ ((convert 22 9 (.slice (some ⟨b9, o9, none⟩) (0) (0))).run Try.prog w' = .ok (.string sb) w') ∧ ((convert 22 9 (.slice (some ⟨b3, o3 + 3072, none⟩) (0) (c3 - 3072))).run Try.prog w' = .ok (.string sb) w')) := ⟨_, fun _ => Iff.rfl⟩
          have mk0 : ∀ x : Memb mS, (convert 22 9 (.slice (some ⟨b9, o9, none⟩) 2048 (3072))).run Try.prog x.at_ = .ok (.string sa) x.at_ := fun x => ((mh _).1 x.is).1
          have mk1 : ∀ x : Memb mS, (convert 22 9 (.slice (some ⟨b3, o3, none⟩) 2048 (c3))).run Try.prog x.at_ = .ok (.string sa) x.at_ := fun x => ((mh _).1 x.is).2.1
          have mk2 : ∀ x : Memb mS, (convert 22 9 (.slice (some ⟨b9, o9, none⟩) (0) (0))).run Try.prog x.at_ = .ok (.string sb) x.at_ := fun x => ((mh _).1 x.is).2.2.1
          have mk3 : ∀ x : Memb mS, (convert 22 9 (.slice (some ⟨b3, o3 + 3072, none⟩) (0) (c3 - 3072))).run Try.prog x.at_ = .ok (.string sb) x.at_ := fun x => ((mh _).1 x.is).2.2.2
          have mn : Nonempty (Memb mS) := ⟨⟨(w9).drew, (mh _).2 ⟨V1.out, V2.out, V3.out, V4.out⟩⟩⟩
          have mH := Lib.hid mh
          clear mh
          refine wp_region_mix [] (InS mS) (by kernel_rfl) (by kernel_rfl) (InS.mk ((mH.out _).2 ⟨V1.out, V2.out, V3.out, V4.out⟩)) ?_
          refine wpMix_seg 22 (by kernel_rfl) (by decide) ?_
          simp only [List.take_succ_cons, List.take_zero, List.drop_succ_cons, List.drop_zero]
          repeat (first | go_big_quiet_step (fail) | (go_big_quiet_want; first | refine quiet_conv mk0 rfl rfl rfl (by simp only [Act.put, List.setIfInBounds_toArray, List.set_cons_succ, List.set_cons_zero]; rfl) ?_; go_big_quiet_on | refine quiet_conv mk1 rfl rfl rfl (by simp only [Act.put, List.setIfInBounds_toArray, List.set_cons_succ, List.set_cons_zero]; rfl) ?_; go_big_quiet_on | refine quiet_conv mk2 rfl rfl rfl (by simp only [Act.put, List.setIfInBounds_toArray, List.set_cons_succ, List.set_cons_zero]; rfl) ?_; go_big_quiet_on | refine quiet_conv mk3 rfl rfl rfl (by simp only [Act.put, List.setIfInBounds_toArray, List.set_cons_succ, List.set_cons_zero]; rfl) ?_; go_big_quiet_on))
          refine wpQuiet_nil ?_
          refine wpMix_nil ?_
          clear mk0 mk1 mk2 mk3 mn mH
          have hL : 3072 - 2048 = 1024 := by have := HKK.out; omega
          have hL2 : 2048 + 1024 - 2048 = 1024 := by omega
          have YB := Lib.hid (show Bs w9 (some ⟨b9, o9 + 2048, none⟩) 1024 (3072 - 2048) Y from by rw [← EX3.out]; exact Bs.take (k := 1024) (R9.out.bs.drop (k := 2048) (by omega)) (by omega))
          have OB := Lib.hid (show Bs w9 (some ⟨b3, o3 + 2048, none⟩) 1024 (c3 - 2048) ((old.drop 2048).take 1024) from Bs.take (k := 1024) (Q9.out.bs.drop (k := 2048) (by omega)) (by omega))
          have nK9 : ¬ 3072 = 2048 := by omega
          have nK3 : ¬ c3 = 2048 := by omega
          clear XD OD XT OT V1 V2 V3 V4 qa qb qa' qb' i1
          rcases P10.out with ⟨q1, rfl, qb⟩ | ⟨rfl, rfl, qd, qc⟩
          · have e0 : decide (0 < after) = true := decide_eq_true q1
            have IB := Lib.hid (isBlank_any _ _ _ _ _ YB.out.drew)
            rw [qb] at IB
            clear qb
            go_wp2_with fail
            refine (N2.out _ _).mono ?_
            rintro e w' ⟨rfl, rfl⟩
            go_wp2_with fail
            refine IB.out.mono ?_
            rintro e w' ⟨rfl, rfl⟩
            go_wp2
            go_ret
            exact ⟨by first | rfl | simp, H9.out.drew.keeps.below (fun _ _ h => h)⟩
          · have e0 : decide ((0 : Int) < 0) = false := rfl
            have RS := Lib.hid (risen_any _ _ _ _ _ _ _ _ _ OB.out.drew.drew YB.out.drew.drew)
            rw [qc] at RS
            have OF := Lib.hid (loff H9.out.drew.drew)
            rw [qd] at OF
            have i2 : IntKind.i64.wrap ((2048 : Int) + 1024) = (3072 : Nat) := by first | rfl | (rw [k2]; exact wrap_nat _ (by omega))
            clear qc qd
            go_wp2
            obtain ⟨mS, mh⟩ : ∃ S : World → Prop, ∀ w', S w' ↔ (True) := ⟨_, fun _ => Iff.rfl⟩
            have mn : Nonempty (Memb mS) := ⟨⟨(w9.drew).drew, (mh _).2 trivial⟩⟩
            have mH := Lib.hid mh
            clear mh
            refine wp_region_mix [1, 5, 18] (InS mS) (by kernel_rfl) (by kernel_rfl) (InS.mk ((mH.out _).2 trivial)) ?_
            refine wpMix_seg 1 (by kernel_rfl) (by decide) ?_
            simp only [List.take_succ_cons, List.take_zero, List.drop_succ_cons, List.drop_zero]
            repeat (go_big_quiet_step (fail))
            refine wpQuiet_nil ?_
            refine wpMix_eff (by kernel_rfl) ?_
            go_wp2_with fail
            refine (N2.out _ _).mono ?_
            rintro e w' ⟨rfl, rfl⟩
            go_wp2
            refine MixK.on (InS.mk ((mH.out _).2 trivial)) ?_
            refine wpMix_seg 3 (by kernel_rfl) (by decide) ?_
            simp only [List.take_succ_cons, List.take_zero, List.drop_succ_cons, List.drop_zero]
            repeat (go_big_quiet_step (fail))
            refine wpQuiet_nil ?_
            refine wpMix_eff (by kernel_rfl) ?_
            go_wp2_with fail
            refine OF.out.mono ?_
            rintro e w' ⟨rfl, rfl⟩
            go_wp2
            refine MixK.on (InS.mk ((mH.out _).2 trivial)) ?_
            refine wpMix_seg 12 (by kernel_rfl) (by decide) ?_
            simp only [List.take_succ_cons, List.take_zero, List.drop_succ_cons, List.drop_zero]
            repeat (go_big_quiet_step (fail))
            refine wpQuiet_nil ?_
            refine wpMix_eff (by kernel_rfl) ?_
            go_wp2_with fail
            refine RS.out.mono ?_
            rintro e w10 ⟨rfl, m10, rfl⟩
            go_wp2
            refine MixK.on (InS.mk ((mH.out _).2 trivial)) ?_
            refine wpMix_seg 2 (by kernel_rfl) (by decide) ?_
            simp only [List.take_succ_cons, List.take_zero, List.drop_succ_cons, List.drop_zero]
            repeat (go_big_quiet_step (fail))
            refine wpQuiet_nil ?_
            refine wpMix_nil ?_
            clear  mn mH
            go_wp2
            go_ret
            exact ⟨by first | rfl | simp, (H9.out.drewN _).keeps.below (fun _ _ h => h)⟩
      · by_cases hco : c3 = kk
        · obtain rfl : kk = 3072 := by omega
          obtain rfl : K = 2048 := by have := HKK.out; omega
          subst hco
          have hco : True := trivial
          -- some ⟨b9, o9 + 3072, none⟩: where x goes on behind the sector, some ⟨b3, o3, none⟩: where old does; c9 - 3072, 0: their room
          have XD := Lib.hid (show Bs w9 (some ⟨b9, o9 + 3072, none⟩) (0) (c9 - 3072) (x.drop 3072) from by have := R9.out.bs.dropIf (k := 3072) (by omega); simpa [hcx] using this)
          have OD := Lib.hid (show Bs w9 (some ⟨b3, o3, none⟩) (0) (0) (old.drop 3072) from by have := Q9.out.bs.dropIf (k := 3072) (by omega); simpa [hco] using this)
          have XT := Lib.hid (R9.out.bs.take (k := 2048) (by omega))
          have OT := Lib.hid (Q9.out.bs.take (k := 2048) (by omega))
          have V1 := Lib.hid (run_str XT.out.drew)
          have V2 := Lib.hid (run_str OT.out.drew)
          have V3 := Lib.hid (run_str XD.out.drew)
          have V4 := Lib.hid (run_str OD.out.drew)
          rw [EX1.out] at V1
          rw [EX2.out] at V3
          obtain ⟨sa, hsa⟩ : ∃ s, strOf (old.take 2048) = s := ⟨_, rfl⟩
          obtain ⟨sb, hsb⟩ : ∃ s, strOf (old.drop 3072) = s := ⟨_, rfl⟩
          rw [hsa] at V1 V2
          rw [hsb] at V3 V4
          have qa : (sa.toList != sa.toList) = false := by simp
          have qb : (sb.toList != sb.toList) = false := by simp
          have qa' : (sa.toList == sa.toList) = true := by simp
          have qb' : (sb.toList == sb.toList) = true := by simp
          have i1 : IntKind.i64.wrap ((2048 : Int) + 1024) = (3072 : Nat) := by first | rfl | (rw [k2]; exact wrap_nat _ (by omega))
          clear hsa hsb
          obtain ⟨mS, mh⟩ : ∃ S : World → Prop, ∀ w', S w' ↔ (((convert 22 9 (.slice (some ⟨b9, o9, none⟩) 2048 (c9))).run Try.prog w' = .ok (.string sa) w') ∧ ((convert 22 9 (.slice (some ⟨b3, o3, none⟩) 2048 (3072))).run Try.prog w' = .ok (.string sa) w') ∧ ((convert 22 9 (.slice (some ⟨b9, o9 + 3072, none⟩) (0) (c9 - 3072))).run Try.prog w' = .ok (.string sb) w') ∧ ((convert 22 9 (.slice (some ⟨b3, o3, none⟩) (0) (0))).run Try.prog w' = .ok (.string sb) w')) := ⟨_, fun _ => Iff.rfl⟩
          have mk0 : ∀ x : Memb mS, (convert 22 9 (.slice (some ⟨b9, o9, none⟩) 2048 (c9))).run Try.prog x.at_ = .ok (.string sa) x.at_ := fun x => ((mh _).1 x.is).1
          have mk1 : ∀ x : Memb mS, (convert 22 9 (.slice (some ⟨b3, o3, none⟩) 2048 (3072))).run Try.prog x.at_ = .ok (.string sa) x.at_ := fun x => ((mh _).1 x.is).2.1
          have mk2 : ∀ x : Memb mS, (convert 22 9 (.slice (some ⟨b9, o9 + 3072, none⟩) (0) (c9 - 3072))).run Try.prog x.at_ = .ok (.string sb) x.at_ := fun x => ((mh _).1 x.is).2.2.1
          have mk3 : ∀ x : Memb mS, (convert 22 9 (.slice (some ⟨b3, o3, none⟩) (0) (0))).run Try.prog x.at_ = .ok (.string sb) x.at_ := fun x => ((mh _).1 x.is).2.2.2
          have mn : Nonempty (Memb mS) := ⟨⟨(w9).drew, (mh _).2 ⟨V1.out, V2.out, V3.out, V4.out⟩⟩⟩
          have mH := Lib.hid mh
          clear mh
          refine wp_region_mix [] (InS mS) (by kernel_rfl) (by kernel_rfl) (InS.mk ((mH.out _).2 ⟨V1.out, V2.out, V3.out, V4.out⟩)) ?_
          refine wpMix_seg 22 (by kernel_rfl) (by decide) ?_
          simp only [List.take_succ_cons, List.take_zero, List.drop_succ_cons, List.drop_zero]
          repeat (first | go_big_quiet_step (fail) | (go_big_quiet_want; first | refine quiet_conv mk0 rfl rfl rfl (by simp only [Act.put, List.setIfInBounds_toArray, List.set_cons_succ, List.set_cons_zero]; rfl) ?_; go_big_quiet_on | refine quiet_conv mk1 rfl rfl rfl (by simp only [Act.put, List.setIfInBounds_toArray, List.set_cons_succ, List.set_cons_zero]; rfl) ?_; go_big_quiet_on | refine quiet_conv mk2 rfl rfl rfl (by simp only [Act.put, List.setIfInBounds_toArray, List.set_cons_succ, List.set_cons_zero]; rfl) ?_; go_big_quiet_on | refine quiet_conv mk3 rfl rfl rfl (by simp only [Act.put, List.setIfInBounds_toArray, List.set_cons_succ, List.set_cons_zero]; rfl) ?_; go_big_quiet_on))
          refine wpQuiet_nil ?_
          refine wpMix_nil ?_
          clear mk0 mk1 mk2 mk3 mn mH
          have hL : 3072 - 2048 = 1024 := by have := HKK.out; omega
          have hL2 : 2048 + 1024 - 2048 = 1024 := by omega
          have YB := Lib.hid (show Bs w9 (some ⟨b9, o9 + 2048, none⟩) 1024 (c9 - 2048) Y from by rw [← EX3.out]; exact Bs.take (k := 1024) (R9.out.bs.drop (k := 2048) (by omega)) (by omega))
          have OB := Lib.hid (show Bs w9 (some ⟨b3, o3 + 2048, none⟩) 1024 (3072 - 2048) ((old.drop 2048).take 1024) from Bs.take (k := 1024) (Q9.out.bs.drop (k := 2048) (by omega)) (by omega))
          have nK9 : ¬ c9 = 2048 := by omega
          have nK3 : ¬ 3072 = 2048 := by omega
          clear XD OD XT OT V1 V2 V3 V4 qa qb qa' qb' i1
          rcases P10.out with ⟨q1, rfl, qb⟩ | ⟨rfl, rfl, qd, qc⟩
          · have e0 : decide (0 < after) = true := decide_eq_true q1
            have IB := Lib.hid (isBlank_any _ _ _ _ _ YB.out.drew)
            rw [qb] at IB
            clear qb
            go_wp2_with fail
            refine (N2.out _ _).mono ?_
            rintro e w' ⟨rfl, rfl⟩
            go_wp2_with fail
            refine IB.out.mono ?_
            rintro e w' ⟨rfl, rfl⟩
            go_wp2
            go_ret
            exact ⟨by first | rfl | simp, H9.out.drew.keeps.below (fun _ _ h => h)⟩
          · have e0 : decide ((0 : Int) < 0) = false := rfl
            have RS := Lib.hid (risen_any _ _ _ _ _ _ _ _ _ OB.out.drew.drew YB.out.drew.drew)
            rw [qc] at RS
            have OF := Lib.hid (loff H9.out.drew.drew)
            rw [qd] at OF
            have i2 : IntKind.i64.wrap ((2048 : Int) + 1024) = (3072 : Nat) := by first | rfl | (rw [k2]; exact wrap_nat _ (by omega))
            clear qc qd
            go_wp2
            obtain ⟨mS, mh⟩ : ∃ S : World → Prop, ∀ w', S w' ↔ (True) := ⟨_, fun _ => Iff.rfl⟩
            have mn : Nonempty (Memb mS) := ⟨⟨(w9.drew).drew, (mh _).2 trivial⟩⟩
            have mH := Lib.hid mh
            clear mh
            refine wp_region_mix [1, 5, 18] (InS mS) (by kernel_rfl) (by kernel_rfl) (InS.mk ((mH.out _).2 trivial)) ?_
            refine wpMix_seg 1 (by kernel_rfl) (by decide) ?_
            simp only [List.take_succ_cons, List.take_zero, List.drop_succ_cons, List.drop_zero]
            repeat (go_big_quiet_step (fail))
            refine wpQuiet_nil ?_
            refine wpMix_eff (by kernel_rfl) ?_
            go_wp2_with fail
            refine (N2.out _ _).mono ?_
            rintro e w' ⟨rfl, rfl⟩
            go_wp2
            refine MixK.on (InS.mk ((mH.out _).2 trivial)) ?_
            refine wpMix_seg 3 (by kernel_rfl) (by decide) ?_
            simp only [List.take_succ_cons, List.take_zero, List.drop_succ_cons, List.drop_zero]
            repeat (go_big_quiet_step (fail))
            refine wpQuiet_nil ?_
            refine wpMix_eff (by kernel_rfl) ?_
            go_wp2_with fail
            refine OF.out.mono ?_
            rintro e w' ⟨rfl, rfl⟩
            go_wp2
            refine MixK.on (InS.mk ((mH.out _).2 trivial)) ?_
            refine wpMix_seg 12 (by kernel_rfl) (by decide) ?_
            simp only [List.take_succ_cons, List.take_zero, List.drop_succ_cons, List.drop_zero]
            repeat (go_big_quiet_step (fail))
            refine wpQuiet_nil ?_
            refine wpMix_eff (by kernel_rfl) ?_
            go_wp2_with fail
            refine RS.out.mono ?_
            rintro e w10 ⟨rfl, m10, rfl⟩
            go_wp2
            refine MixK.on (InS.mk ((mH.out _).2 trivial)) ?_
            refine wpMix_seg 2 (by kernel_rfl) (by decide) ?_
            simp only [List.take_succ_cons, List.take_zero, List.drop_succ_cons, List.drop_zero]
            repeat (go_big_quiet_step (fail))
            refine wpQuiet_nil ?_
            refine wpMix_nil ?_
            clear  mn mH
            go_wp2
            go_ret
            exact ⟨by first | rfl | simp, (H9.out.drewN _).keeps.below (fun _ _ h => h)⟩
        ·
          -- some ⟨b9, o9 + kk, none⟩: where x goes on behind the sector, some ⟨b3, o3 + kk, none⟩: where old does; c9 - kk, c3 - kk: their room
          have XD := Lib.hid (show Bs w9 (some ⟨b9, o9 + kk, none⟩) (3072 - kk) (c9 - kk) (x.drop kk) from by have := R9.out.bs.dropIf (k := kk) (by omega); simpa [hcx] using this)
          have OD := Lib.hid (show Bs w9 (some ⟨b3, o3 + kk, none⟩) (3072 - kk) (c3 - kk) (old.drop kk) from by have := Q9.out.bs.dropIf (k := kk) (by omega); simpa [hco] using this)
          have XT := Lib.hid (R9.out.bs.take (k := K) (by omega))
          have OT := Lib.hid (Q9.out.bs.take (k := K) (by omega))
          have V1 := Lib.hid (run_str XT.out.drew)
          have V2 := Lib.hid (run_str OT.out.drew)
          have V3 := Lib.hid (run_str XD.out.drew)
          have V4 := Lib.hid (run_str OD.out.drew)
          rw [EX1.out] at V1
          rw [EX2.out] at V3
          obtain ⟨sa, hsa⟩ : ∃ s, strOf (old.take K) = s := ⟨_, rfl⟩
          obtain ⟨sb, hsb⟩ : ∃ s, strOf (old.drop kk) = s := ⟨_, rfl⟩
          rw [hsa] at V1 V2
          rw [hsb] at V3 V4
          have qa : (sa.toList != sa.toList) = false := by simp
          have qb : (sb.toList != sb.toList) = false := by simp
          have qa' : (sa.toList == sa.toList) = true := by simp
          have qb' : (sb.toList == sb.toList) = true := by simp
          have i1 : IntKind.i64.wrap ((K : Int) + 1024) = (kk : Nat) := by first | rfl | (rw [k2]; exact wrap_nat _ (by omega))
          clear hsa hsb
          obtain ⟨mS, mh⟩ : ∃ S : World → Prop, ∀ w', S w' ↔ (((convert 22 9 (.slice (some ⟨b9, o9, none⟩) K (c9))).run Try.prog w' = .ok (.string sa) w') ∧ ((convert 22 9 (.slice (some ⟨b3, o3, none⟩) K (c3))).run Try.prog w' = .ok (.string sa) w') ∧ ((convert 22 9 (.slice (some ⟨b9, o9 + kk, none⟩) (3072 - kk) (c9 - kk))).run Try.prog w' = .ok (.string sb) w') ∧ ((convert 22 9 (.slice (some ⟨b3, o3 + kk, none⟩) (3072 - kk) (c3 - kk))).run Try.prog w' = .ok (.string sb) w')) := ⟨_, fun _ => Iff.rfl⟩
          have mk0 : ∀ x : Memb mS, (convert 22 9 (.slice (some ⟨b9, o9, none⟩) K (c9))).run Try.prog x.at_ = .ok (.string sa) x.at_ := fun x => ((mh _).1 x.is).1
          have mk1 : ∀ x : Memb mS, (convert 22 9 (.slice (some ⟨b3, o3, none⟩) K (c3))).run Try.prog x.at_ = .ok (.string sa) x.at_ := fun x => ((mh _).1 x.is).2.1
          have mk2 : ∀ x : Memb mS, (convert 22 9 (.slice (some ⟨b9, o9 + kk, none⟩) (3072 - kk) (c9 - kk))).run Try.prog x.at_ = .ok (.string sb) x.at_ := fun x => ((mh _).1 x.is).2.2.1
          have mk3 : ∀ x : Memb mS, (convert 22 9 (.slice (some ⟨b3, o3 + kk, none⟩) (3072 - kk) (c3 - kk))).run Try.prog x.at_ = .ok (.string sb) x.at_ := fun x => ((mh _).1 x.is).2.2.2
          have mn : Nonempty (Memb mS) := ⟨⟨(w9).drew, (mh _).2 ⟨V1.out, V2.out, V3.out, V4.out⟩⟩⟩
          have mH := Lib.hid mh
          clear mh
          refine wp_region_mix [] (InS mS) (by kernel_rfl) (by kernel_rfl) (InS.mk ((mH.out _).2 ⟨V1.out, V2.out, V3.out, V4.out⟩)) ?_
          refine wpMix_seg 22 (by kernel_rfl) (by decide) ?_
          simp only [List.take_succ_cons, List.take_zero, List.drop_succ_cons, List.drop_zero]
          repeat (first | go_big_quiet_step (fail) | (go_big_quiet_want; first | refine quiet_conv mk0 rfl rfl rfl (by simp only [Act.put, List.setIfInBounds_toArray, List.set_cons_succ, List.set_cons_zero]; rfl) ?_; go_big_quiet_on | refine quiet_conv mk1 rfl rfl rfl (by simp only [Act.put, List.setIfInBounds_toArray, List.set_cons_succ, List.set_cons_zero]; rfl) ?_; go_big_quiet_on | refine quiet_conv mk2 rfl rfl rfl (by simp only [Act.put, List.setIfInBounds_toArray, List.set_cons_succ, List.set_cons_zero]; rfl) ?_; go_big_quiet_on | refine quiet_conv mk3 rfl rfl rfl (by simp only [Act.put, List.setIfInBounds_toArray, List.set_cons_succ, List.set_cons_zero]; rfl) ?_; go_big_quiet_on))
          refine wpQuiet_nil ?_
          refine wpMix_nil ?_
          clear mk0 mk1 mk2 mk3 mn mH
          have hL : kk - K = 1024 := by have := HKK.out; omega
          have hL2 : K + 1024 - K = 1024 := by omega
          have YB := Lib.hid (show Bs w9 (some ⟨b9, o9 + K, none⟩) 1024 (c9 - K) Y from by rw [← EX3.out]; exact Bs.take (k := 1024) (R9.out.bs.drop (k := K) (by omega)) (by omega))
          have OB := Lib.hid (show Bs w9 (some ⟨b3, o3 + K, none⟩) 1024 (c3 - K) ((old.drop K).take 1024) from Bs.take (k := 1024) (Q9.out.bs.drop (k := K) (by omega)) (by omega))
          have nK9 : ¬ c9 = K := by omega
          have nK3 : ¬ c3 = K := by omega
          clear XD OD XT OT V1 V2 V3 V4 qa qb qa' qb' i1
          rcases P10.out with ⟨q1, rfl, qb⟩ | ⟨rfl, rfl, qd, qc⟩
          · have e0 : decide (0 < after) = true := decide_eq_true q1
            have IB := Lib.hid (isBlank_any _ _ _ _ _ YB.out.drew)
            rw [qb] at IB
            clear qb
            go_wp2_with fail
            refine (N2.out _ _).mono ?_
            rintro e w' ⟨rfl, rfl⟩
            go_wp2_with fail
            refine IB.out.mono ?_
            rintro e w' ⟨rfl, rfl⟩
            go_wp2
            go_ret
            exact ⟨by first | rfl | simp, H9.out.drew.keeps.below (fun _ _ h => h)⟩
          · have e0 : decide ((0 : Int) < 0) = false := rfl
            have RS := Lib.hid (risen_any _ _ _ _ _ _ _ _ _ OB.out.drew.drew YB.out.drew.drew)
            rw [qc] at RS
            have OF := Lib.hid (loff H9.out.drew.drew)
            rw [qd] at OF
            have i2 : IntKind.i64.wrap ((K : Int) + 1024) = (kk : Nat) := by first | rfl | (rw [k2]; exact wrap_nat _ (by omega))
            clear qc qd
            go_wp2
            obtain ⟨mS, mh⟩ : ∃ S : World → Prop, ∀ w', S w' ↔ (True) := ⟨_, fun _ => Iff.rfl⟩
            have mn : Nonempty (Memb mS) := ⟨⟨(w9.drew).drew, (mh _).2 trivial⟩⟩
            have mH := Lib.hid mh
            clear mh
            refine wp_region_mix [1, 5, 18] (InS mS) (by kernel_rfl) (by kernel_rfl) (InS.mk ((mH.out _).2 trivial)) ?_
            refine wpMix_seg 1 (by kernel_rfl) (by decide) ?_
            simp only [List.take_succ_cons, List.take_zero, List.drop_succ_cons, List.drop_zero]
            repeat (go_big_quiet_step (fail))
            refine wpQuiet_nil ?_
            refine wpMix_eff (by kernel_rfl) ?_
            go_wp2_with fail
            refine (N2.out _ _).mono ?_
            rintro e w' ⟨rfl, rfl⟩
            go_wp2
            refine MixK.on (InS.mk ((mH.out _).2 trivial)) ?_
            refine wpMix_seg 3 (by kernel_rfl) (by decide) ?_
            simp only [List.take_succ_cons, List.take_zero, List.drop_succ_cons, List.drop_zero]
            repeat (go_big_quiet_step (fail))
            refine wpQuiet_nil ?_
            refine wpMix_eff (by kernel_rfl) ?_
            go_wp2_with fail
            refine OF.out.mono ?_
            rintro e w' ⟨rfl, rfl⟩
            go_wp2
            refine MixK.on (InS.mk ((mH.out _).2 trivial)) ?_
            refine wpMix_seg 12 (by kernel_rfl) (by decide) ?_
            simp only [List.take_succ_cons, List.take_zero, List.drop_succ_cons, List.drop_zero]
            repeat (go_big_quiet_step (fail))
            refine wpQuiet_nil ?_
            refine wpMix_eff (by kernel_rfl) ?_
            go_wp2_with fail
            refine RS.out.mono ?_
            rintro e w10 ⟨rfl, m10, rfl⟩
            go_wp2
            refine MixK.on (InS.mk ((mH.out _).2 trivial)) ?_
            refine wpMix_seg 2 (by kernel_rfl) (by decide) ?_
            simp only [List.take_succ_cons, List.take_zero, List.drop_succ_cons, List.drop_zero]
            repeat (go_big_quiet_step (fail))
            refine wpQuiet_nil ?_
            refine wpMix_nil ?_
            clear  mn mH
            go_wp2
            go_ret
            exact ⟨by first | rfl | simp, (H9.out.drewN _).keeps.below (fun _ _ h => h)⟩
set_option maxRecDepth 100000 in
theorem FlashErases_lifted (os : Os) (started : os.Started) (H : Type) (enc : TypeId × Value → H) :
    ReturnsInHanded {} Try.checked os 6 .any (Rows.flashErasesSpec.pre6 enc Try.prog Try.f6 Rows.flashErasesRow.domain false) (Rows.flashErasesSpec.post enc Try.prog Try.f6 false true false false) := by
  refine returnsInHanded_of_change (C := Try.checked) Try.own started (by kernel_rfl) Try.func6
    (ChangeSpec.witness6 (enc := enc) (C := Try.checked) false ⟨#[], #[.slice none 0 0, .int .i64 0, .int .i64 0, .slice none 0 0], []⟩ 8 (by kernel_rfl) (by kernel_rfl) (by kernel_rfl) (by kernel_rfl)) ?_
  intro W base args ds gs before hval0 hW hcnd _
  have hval : ∀ (j : Nat) t v, Try.f6.params[j]? = some t → args[j]? = some v → Value.okWide Try.prog W .any base t v := hval0
  have hW' := hW
  obtain ⟨p, q, hA0, hV, rfl, hfz, hnd⟩ := hW
  have hA : DataW.TrodAll enc Try.prog W 0 (fun _ => true) true Try.f6.params.toList args.toList ds p := hA0
  rw [Try.params6] at hA hval
  obtain ⟨v0, vs0, d0, ds0, p0, q0, hargs, rfl, rfl, h0, r0⟩ := trodAll_cons hA
  obtain ⟨v1, vs1, d1, ds1, p1, q1, rfl, rfl, rfl, h1, r1⟩ := trodAll_cons r0
  obtain ⟨v2, vs2, d2, ds2, p2, q2, rfl, rfl, rfl, h2, r2⟩ := trodAll_cons r1
  obtain ⟨v3, vs3, d3, ds3, p3, q3, rfl, rfl, rfl, h3, r3⟩ := trodAll_cons r2
  obtain ⟨rfl, rfl, rfl⟩ := trodAll_nil r3
  obtain rfl : args = #[v0, v1, v2, v3] := by cases args; simp_all
  obtain ⟨rfl, rfl⟩ := trodVars_none hV
  have k0 := h0
  have lt0 : ∀ x ∈ p0, x.block < W.heap.size := by obtain ⟨m, hm⟩ := k0; exact DataW.trod_lt m _ _ _ hm
  obtain ⟨a0, len0, cap0, rfl⟩ := okWide_slice Try.underlying22 (hval 0 22 v0 rfl rfl)
  obtain ⟨z0, s0⟩ := open_bs h0
  have k1 := h1
  have lt1 : ∀ x ∈ p1, x.block < W.heap.size := by obtain ⟨m, hm⟩ := k1; exact DataW.trod_lt m _ _ _ hm
  obtain ⟨a1, rfl, rfl, rfl, w1⟩ := open_int Try.underlying3 (hval 1 3 v1 rfl rfl) h1
  have k2 := h2
  have lt2 : ∀ x ∈ p2, x.block < W.heap.size := by obtain ⟨m, hm⟩ := k2; exact DataW.trod_lt m _ _ _ hm
  obtain ⟨a2, rfl, rfl, rfl, w2⟩ := open_int Try.underlying3 (hval 2 3 v2 rfl rfl) h2
  have k3 := h3
  have lt3 : ∀ x ∈ p3, x.block < W.heap.size := by obtain ⟨m, hm⟩ := k3; exact DataW.trod_lt m _ _ _ hm
  obtain ⟨a3, len3, cap3, rfl⟩ := okWide_slice Try.underlying22 (hval 3 22 v3 rfl rfl)
  obtain ⟨z3, s3⟩ := open_bs h3
  clear hA0 hval0
  refine (erases2_any a0 a3 len0 cap0 len3 cap3 z0 z3 a1 a2 W (wf_i64_bd w2).2 s0 s3).mono fun e W' ⟨he, bel⟩ => ?_
  subst he
  exact ⟨_, rfl, _, _, _, [], _, [], hW', trodAll_mk1 (shut_bool Try.underlying4 _), (trodAll_cons_mk (Below.trod Try.laidOut (by kernel_rfl) (of_decide_eq_true (by kernel_rfl)) k0 bel lt0) (trodAll_cons_mk (Below.trod Try.laidOut (by kernel_rfl) (of_decide_eq_true (by kernel_rfl)) k1 bel lt1) (trodAll_cons_mk (Below.trod Try.laidOut (by kernel_rfl) (of_decide_eq_true (by kernel_rfl)) k2 bel lt2) (trodAll_cons_mk (Below.trod Try.laidOut (by kernel_rfl) (of_decide_eq_true (by kernel_rfl)) k3 bel lt3) trodAll_mk0)))), rfl, bel.frame _, fun h => by cases h⟩

set_option maxRecDepth 100000 in
theorem FlashErases_closed : joinedFacts Try.checked.prog 6 Try.f6 Rows.flashErasesSpec Rows.flashErasesRow = true := by
  unfold joinedFacts
  rw [closed_laid, closed_maps, closed_heard, closed_plain, closed_mayEnter, closed_lifts, closed_make]
  kernel_rfl

theorem FlashErases_holds : Rows.FlashErasesSaid :=
  OpenClaim.holds_of_wide 6 Try.f6 rfl rfl rfl rfl rfl rfl rfl ⟨rfl, rfl, rfl, rfl, rfl⟩ rfl rfl rfl rfl rfl (by kernel_rfl) Try.func6 FlashErases_closed
    (of_decide_eq_true (by kernel_rfl)) (by unfold Func.isWrapper; first | (rw [if_pos (by decide +kernel)]; kernel_rfl) | (rw [if_neg (by decide +kernel)]; exact ⟨rfl, rfl⟩))
    (fun os started H enc _ => FlashErases_lifted os started H enc)
#print axioms FlashErases_holds
end Go.Proofs.Ytngofnlhbhfigaa
