/-
  For every record, every word of it and every pick, the law SealTorn returns true: a record whose programming was broken off is whole or is none. No condition.
-/
import Derived.Test.YteogaacdmoafpaaSealTurnL
import Derived.Test.YteogaacdmoafpaaNorTwice
import Derived.IntWalk
import Derived.Test.YteogaacdmoafpaaBits2
namespace Go.Proofs.Yteogaacdmoafpaa
open Go.RowKit Go.ChangeShapes Go.WideShapes Go.ChangeAt

/-- What a read record has behind it. -/
theorem get_some {xs bl : List Int} {k s n : Int} (h : getL xs = some (k, s, bl, n)) :
    n = sizeZ (xs.getD 2 0 + xs.getD 3 0 * 256) ∧ 16 ≤ n ∧ n ≤ xs.length ∧ ∃ F, xs.take n.toNat = F ++ tailL F ∧ n = F.length + 8 := by
  unfold getL at h
  split at h
  · cases h
  · simp only at h
    split at h
    · cases h
    · rename_i h1 h2
      split at h
      · rename_i h3
        simp only [Option.some.injEq, Prod.mk.injEq] at h
        obtain ⟨e1, e2, e3, e4⟩ := h
        rw [e1, e2, e3, e4] at h3
        have hn0 : n ≠ 0 := by rw [← e4]; exact fun e => h2 (.inl e)
        have hle : n ≤ xs.length := by rw [← e4]; exact Int.not_lt.1 fun e => h2 (.inr e)
        have hsz : n = 16 + ((xs.getD 2 0 + xs.getD 3 0 * 256) + 7) / 8 * 8 ∧ 0 ≤ xs.getD 2 0 + xs.getD 3 0 * 256 := by
          unfold sizeZ at e4
          split at e4
          · omega
          · constructor <;> omega
        refine ⟨e4.symm, by omega, hle, ?_⟩
        have hl := congrArg List.length h3
        rw [List.length_take] at hl
        by_cases hf : fitsR k s bl.length
        · have hp : putL k s bl = frontL k s bl ++ tailL (frontL k s bl) := if_pos hf
          refine ⟨frontL k s bl, by rw [← h3, hp], ?_⟩
          rw [hp, List.length_append, tailL_len] at hl
          omega
        · have hp : putL k s bl = [] := if_neg hf
          rw [hp] at hl
          simp at hl
          omega
      · cases h
theorem tailL_byte {F : List Int} (hF : ∀ z ∈ F, 0 ≤ z ∧ z ≤ 255) : ∀ z ∈ tailL F, 0 ≤ z ∧ z ≤ 255 := by
  have h1 : sumOf F < 4294967296 := crcOf_lt (natL_lt hF)
  have h2 : sumOf F ^^^ 4294967295 < 2 ^ 32 := Nat.xor_lt_two_pow (by omega) (by decide)
  intro z hz
  rcases List.mem_append.1 hz with hz | hz
  · exact le4_byte _ h1 z hz
  · exact le4_byte _ (by omega) z hz
theorem tail_ff (F : List Int) (h : ∀ i, i < 8 → (tailL F).getD i 0 = 255) : False := by
  have a0 := h 0 (by decide)
  have a1 := h 1 (by decide)
  have a2 := h 2 (by decide)
  have a3 := h 3 (by decide)
  have a4 := h 4 (by decide)
  have a5 := h 5 (by decide)
  have a6 := h 6 (by decide)
  have a7 := h 7 (by decide)
  simp only [tailL, le4, List.cons_append, List.nil_append, List.getD_cons_zero, List.getD_cons_succ] at a0 a1 a2 a3 a4 a5 a6 a7
  have hx : sumOf F = 4294967295 := by omega
  rw [hx] at a4
  exact absurd a4 (by decide)
theorem get_ff {xs : List Int} (h : ∀ n, n = sizeZ (xs.getD 2 0 + xs.getD 3 0 * 256) → 16 ≤ n → n ≤ xs.length → ∀ i, i < 8 → xs.getD (n.toNat - 8 + i) 0 = 255) : getL xs = none := by
  cases hg : getL xs with
  | none => rfl
  | some r =>
    exfalso
    obtain ⟨k, s, bl, n⟩ := r
    obtain ⟨h1, h2, h3, F, h4, h5⟩ := get_some hg
    refine tail_ff F fun i hi => ?_
    rw [← h n h1 h2 h3 i hi]
    have e : n.toNat - 8 = F.length := by omega
    have : xs.getD (F.length + i) 0 = (xs.take n.toNat).getD (F.length + i) 0 := by
      simp only [List.getD, List.getElem?_take]
      rw [if_pos (by omega)]
    rw [e, this, h4]
    simp [List.getD, List.getElem?_append_right (show F.length ≤ F.length + i by omega)]
/-- What is left of a broken record. -/
theorem get_torn (k s : Int) (zs : List Int) (hf : fitsR k s zs.length) (w : Nat) (hw : 8 * w + 8 ≤ (putL k s zs).length) (t : List Int) (ht : t.length = 8) (m : Nat) (hm : (putL k s zs).length + 64 = 8 * w + 8 + m)
    (hne : ((putL k s zs).take (8 * w) ++ t ++ List.replicate m 255).take (putL k s zs).length ≠ putL k s zs) :
    getL ((putL k s zs).take (8 * w) ++ t ++ List.replicate m 255) = none := by
  have hlen := putL_len k s zs hf
  have hco := putL_cons k s zs [] hf
  rw [List.append_nil] at hco
  have h5 := hf.2.2.2.2
  have hs : sizeZ zs.length = 16 + ((zs.length : Int) + 7) / 8 * 8 := if_neg (by omega)
  have hn : ((zs.length : Int) % 256) + ((zs.length : Int) / 256) * 256 = zs.length := by omega
  have hq : ((s.toNat : Int) % 256) + ((s.toNat : Int) / 256 % 256) * 256 + ((s.toNat : Int) / 65536 % 256) * 65536 + ((s.toNat : Int) / 16777216) * 16777216 = s := by
    obtain ⟨f1, f2, f3, f4, f5⟩ := hf; omega
  have hA : ((putL k s zs).take (8 * w)).length = 8 * w := by rw [List.length_take]; omega
  have hlow : ∀ i, i < 8 * w → ((putL k s zs).take (8 * w) ++ t ++ List.replicate m 255).getD i 0 = (putL k s zs).getD i 0 := by
    intro i hi
    simp only [List.getD]
    rw [List.getElem?_append_left (by rw [List.length_append]; omega), List.getElem?_append_left (by omega), List.getElem?_take, if_pos hi]
  have hhigh : ∀ i, 8 * w + 8 ≤ i → i < 8 * w + 8 + m → ((putL k s zs).take (8 * w) ++ t ++ List.replicate m 255).getD i 0 = 255 := by
    intro i hi hi2
    simp only [List.getD]
    rw [List.getElem?_append_right (by rw [List.length_append]; omega), List.getElem?_replicate, if_pos (by rw [List.length_append]; omega)]
    rfl
  have hXl : ((putL k s zs).take (8 * w) ++ t ++ List.replicate m 255).length = 8 * w + 8 + m := by
    rw [List.length_append, List.length_append, hA, ht, List.length_replicate]
  have hdr : ((putL k s zs).take (8 * w) ++ t ++ List.replicate m 255) = (putL k s zs).take (8 * w) ++ (t ++ List.replicate m 255) := List.append_assoc _ _ _
  generalize hX : (putL k s zs).take (8 * w) ++ t ++ List.replicate m 255 = X at *
  have hL8 : ∃ q : Nat, (putL k s zs).length = 8 * q := ⟨2 + (zs.length + 7) / 8, by omega⟩
  obtain ⟨q, hq8⟩ := hL8
  by_cases hw0 : w = 0
  · subst hw0
    refine get_ff fun n h1 h2 h3 i hi => hhigh _ (by omega) (by omega)
  · have g0 : X.getD 0 0 = k := by rw [hlow 0 (by omega), hco]; rfl
    have g2 : X.getD 2 0 = (zs.length : Int) % 256 := by rw [hlow 2 (by omega), hco]; rfl
    have g3 : X.getD 3 0 = (zs.length : Int) / 256 := by rw [hlow 3 (by omega), hco]; rfl
    by_cases hlast : 8 * w + 8 < (putL k s zs).length
    · refine get_ff fun n h1 h2 h3 i hi => ?_
      rw [g2, g3, hn] at h1
      exact hhigh _ (by omega) (by omega)
    · have g4 : X.getD 4 0 = (s.toNat : Int) % 256 := by rw [hlow 4 (by omega), hco]; rfl
      have g5 : X.getD 5 0 = (s.toNat : Int) / 256 % 256 := by rw [hlow 5 (by omega), hco]; rfl
      have g6 : X.getD 6 0 = (s.toNat : Int) / 65536 % 256 := by rw [hlow 6 (by omega), hco]; rfl
      have g7 : X.getD 7 0 = (s.toNat : Int) / 16777216 := by rw [hlow 7 (by omega), hco]; rfl
      have g8 : (X.drop 8).take zs.length = zs := by
        have e1 : (X.drop 8).take zs.length = ((putL k s zs).drop 8).take zs.length := by
          rw [hdr, List.drop_append_of_le_length (by rw [hA]; omega), List.take_append_of_le_length (by rw [List.length_drop, hA]; omega), List.drop_take, List.take_take, Nat.min_eq_left (by omega)]
        rw [e1, hco]; simp
      unfold getL
      rw [if_neg (by rw [hXl]; omega)]
      simp only [g0, g2, g3, g4, g5, g6, g7, hn, hq, Int.toNat_natCast, g8]
      rw [if_neg (by rw [hXl]; omega), if_neg]
      rw [← hlen, Int.toNat_natCast]
      exact fun e => hne e.symm
/-- What is whole is read. -/
theorem get_whole (k s : Int) (zs : List Int) (hf : fitsR k s zs.length) (X : List Int) (h : X.take (putL k s zs).length = putL k s zs) : getL X = some (k, s, zs, sizeZ zs.length) := by
  have := get_put k s zs (X.drop (putL k s zs).length) hf
  rw [← this]
  congr 1
  conv => lhs; rw [← List.take_append_drop (putL k s zs).length X, h]
theorem andNot255 : ∀ n : Fin 256, bits .andNot .u8 (n : Int) 255 = 0 := by decide +kernel
theorem canN_ff (ns : List Int) (hb : ∀ z ∈ ns, 0 ≤ z ∧ z ≤ 255) : canN (List.replicate ns.length 255) ns = true := by
  simp only [canN, decide_eq_true_eq, List.length_replicate, true_and]
  intro i hi
  have h1 := byte_getD hb i
  have h2 : (List.replicate ns.length (255 : Int)).getD i 0 = 255 := by simp [List.getD, hi]
  rw [h2]
  have := andNot255 ⟨(ns.getD i 0).toNat, by omega⟩
  simp only at this
  rwa [Int.toNat_of_nonneg h1.1] at this
theorem tornN_ff_len (ns ps : List Int) (hb : ∀ z ∈ ns, 0 ≤ z ∧ z ≤ 255) : (tornN (List.replicate ns.length 255) ns ps).length = ns.length := by
  rw [tornN, if_pos (canN_ff ns hb), tornTo_length]

set_option maxRecDepth 100000 in
set_option maxHeartbeats 3200000 in
theorem torn5_any (k s : Int) (A B : Option Addr) (n cap m cap2 : Nat) (zs ps : List Int) (word : Int) (W : World) (h : Bs W A n cap zs) (h2 : Bs W B m cap2 ps) :
    Calls Try.prog 11 #[.agg #[.int .i64 k, .int .i64 s, .slice A n cap], .int .i64 word, .slice B m cap2] W fun e w' => e = .returned (.bool true) ∧ Below W.heap.size W w' := by
  have ALV : Hid (∀ w, Calls Try.prog 37 #[] w fun e w' => e = .returned (.bool true) ∧ Keeps None w w') := alive5_any
  have hle := h.le
  have hmx := h.max
  have hle2 := h2.le
  have hmx2 := h2.max
  have H1 := Lib.hid h
  have H2 := Lib.hid h2
  have PUT := Lib.hid (fun w hh => sput_all k s A n cap zs w hh)
  have PLN := Lib.hid (fun (hp : 0 < (putL k s zs).length) => show fitsR k s zs.length from by
    by_cases hf : fitsR k s zs.length
    · exact hf
    · have : putL k s zs = [] := if_neg hf
      rw [this] at hp; simp at hp)
  have PLM := Lib.hid (show (putL k s zs).length ≤ 600 ∧ ∃ q : Nat, (putL k s zs).length = 8 * q from by
    by_cases hf : fitsR k s zs.length
    · have := putL_len k s zs hf
      have e : sizeZ zs.length = 16 + ((zs.length : Int) + 7) / 8 * 8 := if_neg (by have := hf.2.2.2.2; omega)
      have := hf.2.2.2.2
      exact ⟨by omega, 2 + (zs.length + 7) / 8, by omega⟩
    · have : putL k s zs = [] := if_neg hf
      rw [this]; exact ⟨by simp, 0, rfl⟩)
  have GT := Lib.hid (fun (hf : fitsR k s zs.length) => get_torn k s zs hf)
  have GW := Lib.hid (fun (hf : fitsR k s zs.length) X hX => (get_whole k s zs hf X hX).trans (by rw [← putL_len k s zs hf]))
  have hbyte := h.byte
  have PLB := Lib.hid (show ∀ z ∈ putL k s zs, 0 ≤ z ∧ z ≤ 255 from by
    unfold putL
    split
    · rename_i hf
      intro z hz
      rcases List.mem_append.1 hz with hz | hz
      · exact frontL_byte hf hbyte z hz
      · exact tailL_byte (frontL_byte hf hbyte) z hz
    · simp)
  obtain ⟨PL, hPL⟩ : ∃ PL, PL = putL k s zs := ⟨_, rfl⟩
  rw [← hPL] at PUT PLN PLM GT GW PLB
  clear hPL hbyte
  obtain ⟨L, hL⟩ : ∃ L, PL.length = L := ⟨_, rfl⟩
  rw [hL] at PLN PLM GT GW
  have HLL := Lib.hid hL
  have L600 := PLM.out.1
  obtain ⟨q, hq⟩ := PLM.out.2
  clear hL PLM
  have lq : L / 8 = q := by omega
  have lqi : (L : Int) / 8 = q := by omega
  have Hq := Lib.hid hq
  clear hq
  by_cases g1 : 600 < n
  · have d1 : decide (600 < (n : Int)) = true := decide_eq_true (by omega)
    clear h h2
    go_enter Try.func11, Try.ntmps11
    go_wp2_with fail
    refine (ALV.out _).mono ?_
    rintro e w1 ⟨rfl, hk1⟩
    have X1 := Lib.hid (((Keeps.refl None W).alloc (.cells #[.int .i64 k, .int .i64 s, .slice A n cap] 39)).trans hk1 (T := None) (fun _ h => h) (fun _ _ h => h))
    have R1 := Lib.hid (hk1.blk (Blk.new W [.int .i64 k, .int .i64 s, .slice A n cap] 39) (fun h => h))
    have y0 := R1.out.cellD 0 _ rfl
    have y1 := R1.out.cellD 1 _ rfl
    have y2 := R1.out.cellD 2 _ rfl
    clear hk1
    go_wp2_with fail
    refine (PUT.out _ (H1.out.keeps X1.out (fun _ _ _ _ _ h => h))).mono ?_
    rintro e w2 ⟨v2, rfl, o2, k2⟩
    obtain ⟨A2, cap2', rfl, bs2, -⟩ := o2.shape
    have X2 := Lib.hid (X1.out.trans k2 (T := None) (fun _ h => h) (fun _ _ h => h))
    have R2 := Lib.hid (k2.blk R1.out (fun h => h))
    have P2 := Lib.hid bs2
    have z0 := R2.out.cellD 0 _ rfl
    have z1 := R2.out.cellD 1 _ rfl
    have z2 := R2.out.cellD 2 _ rfl
    clear o2 k2 bs2 X1 R1 y0 y1 y2
    rw [HLL.out] at P2 ⊢
    have cle := P2.out.le
    have cmx := P2.out.max
    go_wp2
    go_ret
    exact ⟨rfl, X2.out.below (fun _ _ h => h)⟩
  have d1 : decide (600 < (n : Int)) = false := decide_eq_false (by omega)
  by_cases g2 : word < 0
  · have d2 : decide (word < 0) = true := decide_eq_true g2
    clear h h2
    go_enter Try.func11, Try.ntmps11
    go_wp2_with fail
    refine (ALV.out _).mono ?_
    rintro e w1 ⟨rfl, hk1⟩
    have X1 := Lib.hid (((Keeps.refl None W).alloc (.cells #[.int .i64 k, .int .i64 s, .slice A n cap] 39)).trans hk1 (T := None) (fun _ h => h) (fun _ _ h => h))
    have R1 := Lib.hid (hk1.blk (Blk.new W [.int .i64 k, .int .i64 s, .slice A n cap] 39) (fun h => h))
    have y0 := R1.out.cellD 0 _ rfl
    have y1 := R1.out.cellD 1 _ rfl
    have y2 := R1.out.cellD 2 _ rfl
    clear hk1
    go_wp2_with fail
    refine (PUT.out _ (H1.out.keeps X1.out (fun _ _ _ _ _ h => h))).mono ?_
    rintro e w2 ⟨v2, rfl, o2, k2⟩
    obtain ⟨A2, cap2', rfl, bs2, -⟩ := o2.shape
    have X2 := Lib.hid (X1.out.trans k2 (T := None) (fun _ h => h) (fun _ _ h => h))
    have R2 := Lib.hid (k2.blk R1.out (fun h => h))
    have P2 := Lib.hid bs2
    have z0 := R2.out.cellD 0 _ rfl
    have z1 := R2.out.cellD 1 _ rfl
    have z2 := R2.out.cellD 2 _ rfl
    clear o2 k2 bs2 X1 R1 y0 y1 y2
    rw [HLL.out] at P2 ⊢
    have cle := P2.out.le
    have cmx := P2.out.max
    go_wp2
    go_ret
    exact ⟨rfl, X2.out.below (fun _ _ h => h)⟩
  obtain ⟨t, rfl⟩ : ∃ t : Nat, word = t := ⟨word.toNat, by omega⟩
  have d2 : decide ((t : Int) < 0) = false := decide_eq_false g2
  by_cases g3 : q ≤ t
  · have d3 : decide ((q : Int) ≤ t) = true := decide_eq_true (by omega)
    have d4 : decide (q ≤ t) = true := decide_eq_true g3
    clear h h2
    go_enter Try.func11, Try.ntmps11
    go_wp2_with fail
    refine (ALV.out _).mono ?_
    rintro e w1 ⟨rfl, hk1⟩
    have X1 := Lib.hid (((Keeps.refl None W).alloc (.cells #[.int .i64 k, .int .i64 s, .slice A n cap] 39)).trans hk1 (T := None) (fun _ h => h) (fun _ _ h => h))
    have R1 := Lib.hid (hk1.blk (Blk.new W [.int .i64 k, .int .i64 s, .slice A n cap] 39) (fun h => h))
    have y0 := R1.out.cellD 0 _ rfl
    have y1 := R1.out.cellD 1 _ rfl
    have y2 := R1.out.cellD 2 _ rfl
    clear hk1
    go_wp2_with fail
    refine (PUT.out _ (H1.out.keeps X1.out (fun _ _ _ _ _ h => h))).mono ?_
    rintro e w2 ⟨v2, rfl, o2, k2⟩
    obtain ⟨A2, cap2', rfl, bs2, -⟩ := o2.shape
    have X2 := Lib.hid (X1.out.trans k2 (T := None) (fun _ h => h) (fun _ _ h => h))
    have R2 := Lib.hid (k2.blk R1.out (fun h => h))
    have P2 := Lib.hid bs2
    have z0 := R2.out.cellD 0 _ rfl
    have z1 := R2.out.cellD 1 _ rfl
    have z2 := R2.out.cellD 2 _ rfl
    clear o2 k2 bs2 X1 R1 y0 y1 y2
    rw [HLL.out] at P2 ⊢
    have cle := P2.out.le
    have cmx := P2.out.max
    go_wp2
    go_ret
    exact ⟨rfl, X2.out.below (fun _ _ h => h)⟩
  have d3 : decide ((q : Int) ≤ t) = false := decide_eq_false (by omega)
  have d4 : decide (q ≤ t) = false := decide_eq_false g3
  by_cases g4 : 8 < m
  · have d5 : decide (8 < (m : Int)) = true := decide_eq_true (by omega)
    clear h h2
    go_enter Try.func11, Try.ntmps11
    go_wp2_with fail
    refine (ALV.out _).mono ?_
    rintro e w1 ⟨rfl, hk1⟩
    have X1 := Lib.hid (((Keeps.refl None W).alloc (.cells #[.int .i64 k, .int .i64 s, .slice A n cap] 39)).trans hk1 (T := None) (fun _ h => h) (fun _ _ h => h))
    have R1 := Lib.hid (hk1.blk (Blk.new W [.int .i64 k, .int .i64 s, .slice A n cap] 39) (fun h => h))
    have y0 := R1.out.cellD 0 _ rfl
    have y1 := R1.out.cellD 1 _ rfl
    have y2 := R1.out.cellD 2 _ rfl
    clear hk1
    go_wp2_with fail
    refine (PUT.out _ (H1.out.keeps X1.out (fun _ _ _ _ _ h => h))).mono ?_
    rintro e w2 ⟨v2, rfl, o2, k2⟩
    obtain ⟨A2, cap2', rfl, bs2, -⟩ := o2.shape
    have X2 := Lib.hid (X1.out.trans k2 (T := None) (fun _ h => h) (fun _ _ h => h))
    have R2 := Lib.hid (k2.blk R1.out (fun h => h))
    have P2 := Lib.hid bs2
    have z0 := R2.out.cellD 0 _ rfl
    have z1 := R2.out.cellD 1 _ rfl
    have z2 := R2.out.cellD 2 _ rfl
    clear o2 k2 bs2 X1 R1 y0 y1 y2
    rw [HLL.out] at P2 ⊢
    have cle := P2.out.le
    have cmx := P2.out.max
    go_wp2
    go_ret
    exact ⟨rfl, X2.out.below (fun _ _ h => h)⟩
  have d5 : decide (8 < (m : Int)) = false := decide_eq_false (by omega)
  obtain ⟨a, ha⟩ : ∃ a, 8 * t = a := ⟨_, rfl⟩
  have aL : a + 8 ≤ L := by have := Hq.out; omega
  have a1 : 8 * (t : Int) = a := by omega
  have a3 : IntKind.i64.wrap (8 * (t : Int)) = a := by rw [a1]; exact wrap_nat _ (by omega)
  have a2 : wrap64 (8 * (t : Int)) = a := by rw [a1]; unfold wrap64; omega
  have a4 : IntKind.i64.wrap ((a : Int) + 8) = a + 8 := IntWalk.i64_in _ (by omega)
  have hf := PLN.out (by omega)
  have GT2 := Lib.hid (GT.out hf t (by omega))
  have GW2 := Lib.hid (GW.out hf)
  rw [ha] at GT2
  clear GT GW PLN Hq lq hf
  obtain ⟨T, hT⟩ : ∃ T, tornN (blankN 8) ((PL.drop a).take 8) ps = T := ⟨_, rfl⟩
  have TL : T.length = 8 := by
    have hl8 : ((PL.drop a).take 8).length = 8 := by rw [List.length_take, List.length_drop, HLL.out]; omega
    have := tornN_ff_len ((PL.drop a).take 8) ps (fun z hz => PLB.out z (List.mem_of_mem_drop (List.mem_of_mem_take hz)))
    rw [hl8] at this
    rw [← hT]; exact this
  have HT := Lib.hid hT
  have HTL := Lib.hid TL
  obtain ⟨mm, hmm⟩ : ∃ mm : Nat, L + 64 = a + 8 + mm := ⟨L + 64 - a - 8, by omega⟩
  have mmi : (L : Int) - a - 8 + 64 = mm := by omega
  have BL := Lib.hid (fun w => blank_any 8 w)
  have BLm : Hid (∀ w, Calls Try.prog 19 #[.int .i64 mm] w (Cloned w (List.replicate mm 255))) := fun w => by
    have := blank_any mm w
    have e : (max 0 (min (mm : Int) 65536)).toNat = mm := by omega
    rwa [blankN, e] at this
  have FT := Lib.hid (fun hx => GW2.out (PL.take a ++ T ++ List.replicate mm 255) hx)
  have FF := Lib.hid (GT2.out T TL mm hmm)
  obtain ⟨X, hX⟩ : ∃ X, PL.take a ++ T ++ List.replicate mm 255 = X := ⟨_, rfl⟩
  have XLen : X.length = L + 64 := by rw [← hX, List.length_append, List.length_append, List.length_take, TL, List.length_replicate, HLL.out]; omega
  have HX := Lib.hid hX
  have HXL := Lib.hid XLen
  rw [hX] at FT FF
  obtain ⟨Y, hY⟩ : ∃ Y, X.take L = Y := ⟨_, rfl⟩
  rw [hY] at FT FF
  have HY := Lib.hid hY
  clear hT TL hmm hX XLen GT2 GW2 hY
  by_cases hYP : Y = PL
  · have HG := Lib.hid (FT.out hYP)
    have HYP := Lib.hid hYP
    clear FT FF hYP
    clear h h2
    go_enter Try.func11, Try.ntmps11
    go_wp2_with fail
    refine (ALV.out _).mono ?_
    rintro e w1 ⟨rfl, hk1⟩
    have X1 := Lib.hid (((Keeps.refl None W).alloc (.cells #[.int .i64 k, .int .i64 s, .slice A n cap] 39)).trans hk1 (T := None) (fun _ h => h) (fun _ _ h => h))
    have R1 := Lib.hid (hk1.blk (Blk.new W [.int .i64 k, .int .i64 s, .slice A n cap] 39) (fun h => h))
    have y0 := R1.out.cellD 0 _ rfl
    have y1 := R1.out.cellD 1 _ rfl
    have y2 := R1.out.cellD 2 _ rfl
    clear hk1
    go_wp2_with fail
    refine (PUT.out _ (H1.out.keeps X1.out (fun _ _ _ _ _ h => h))).mono ?_
    rintro e w2 ⟨v2, rfl, o2, k2⟩
    obtain ⟨A2, cap2', rfl, bs2, -⟩ := o2.shape
    have X2 := Lib.hid (X1.out.trans k2 (T := None) (fun _ h => h) (fun _ _ h => h))
    have R2 := Lib.hid (k2.blk R1.out (fun h => h))
    have P2 := Lib.hid bs2
    have z0 := R2.out.cellD 0 _ rfl
    have z1 := R2.out.cellD 1 _ rfl
    have z2 := R2.out.cellD 2 _ rfl
    clear o2 k2 bs2 X1 R1 y0 y1 y2
    rw [HLL.out] at P2 ⊢
    have cle := P2.out.le
    have cmx := P2.out.max
    obtain ⟨b2, o2, hA2, hb2, -⟩ := P2.out.at_ (by omega)
    subst hA2
    have DT : Hid (Bs w2 (some ⟨b2, o2 + a, none⟩) 8 (cap2' - a) ((PL.drop a).take 8)) := (P2.out.drop (k := a) (by omega)).take (by omega)
    have Q2 := Lib.hid (H2.out.keeps X2.out (fun _ _ _ _ _ h => h))
    have hne : ¬ cap2' = a := by omega
    have h8 : a + 8 - a = 8 := by omega
    go_wp2
    obtain ⟨mS, mh⟩ : ∃ S : World → Prop, ∀ w', S w' ↔ (True) := ⟨_, fun _ => Iff.rfl⟩
    have mn : Nonempty (Memb mS) := ⟨⟨(w2).drew, (mh _).2 trivial⟩⟩
    have mH := Lib.hid mh
    clear mh
    refine wp_region_mix [0, 9] (InS mS) (by kernel_rfl) (by kernel_rfl) (InS.mk ((mH.out _).2 trivial)) ?_
    refine wpMix_eff (by kernel_rfl) ?_
    go_wp2_with fail
    refine (BL.out _).mono ?_
    rintro e w3 ⟨v3, rfl, o3, k3⟩
    obtain ⟨A3, c3, rfl, bs3, -⟩ := o3.shape
    go_wp2
    refine MixK.on (InS.mk ((mH.out _).2 trivial)) ?_
    refine wpMix_seg 8 (by kernel_rfl) (by decide) ?_
    simp only [List.take_succ_cons, List.take_zero, List.drop_succ_cons, List.drop_zero]
    repeat (go_big_quiet_step (fail))
    refine wpQuiet_nil ?_
    refine wpMix_eff (by kernel_rfl) ?_
    go_wp2_with fail
    refine (torn_any _ _ _ _ _ _ _ _ _ (blankN 8) _ ps _ bs3 (DT.out.drew.keeps k3 (fun _ _ _ _ _ h => h)) (Q2.out.drew.keeps k3 (fun _ _ _ _ _ h => h)) (by omega)).mono ?_
    rintro e w4 ⟨v4, rfl, o4, k4⟩
    rw [HT.out] at o4
    obtain ⟨A4, c4, rfl, bs4, -⟩ := o4.shape
    rw [HTL.out] at bs4 ⊢
    have K4 : Hid (Keeps None w2 w4) := ((Keeps.refl None w2).drew.trans k3 (fun _ h => h) (fun _ _ h => h)).trans k4 (fun _ h => h) (fun _ _ h => h)
    have S4 := Lib.hid bs4
    clear o3 k3 bs3 o4 k4 bs4
    go_wp2
    refine MixK.on (InS.mk ((mH.out _).2 trivial)) ?_
    refine wpMix_seg 1 (by kernel_rfl) (by decide) ?_
    simp only [List.take_succ_cons, List.take_zero, List.drop_succ_cons, List.drop_zero]
    repeat (go_big_quiet_step (fail))
    refine wpQuiet_nil ?_
    refine wpMix_nil ?_
    clear  mn mH
    clear hne h8 DT Q2 BL
    have X4 := Lib.hid (X2.out.trans K4.out (T := None) (fun _ h => h) (fun _ _ h => h))
    have P4 := Lib.hid (P2.out.keeps K4.out (fun _ _ _ _ _ h => h))
    have R4 := Lib.hid (K4.out.blk R2.out (fun h => h))
    clear X2 K4 P2 R2 z0 z1 z2
    go_wp2_with (at_builtin; refine Hid.out ?_)
    refine Lib.hid ?_
    refine wpList_append_bs (Own.nil _ w4.heap.size) (P4.out.take (k := a) (by omega)) (by simp; omega) (Nat.le_refl _) rfl rfl rfl rfl rfl ?_
    intro v5 w5 ho5 hk5
    rw [List.nil_append] at ho5
    have N5 : Hid (Keeps None w4 w5) := hk5.mono (fun i hi e => by simp [Value.ownBlock] at e)
    have O5 := Lib.hid ho5
    have L5 : Hid ((PL.take a).length = a) := by show (PL.take a).length = a; rw [List.length_take, HLL.out]; omega
    clear ho5 hk5
    go_wp2_with (at_builtin; refine Hid.out ?_)
    refine Lib.hid ?_
    refine wpList_append_bs O5.out (S4.out.keeps N5.out (fun _ _ _ _ _ h => h)) (by rw [L5.out]; omega) N5.out.size rfl rfl rfl rfl rfl ?_
    intro v6 w6 ho6 hk6
    have N6 : Hid (Keeps None w4 w6) := N5.out.trans hk6 (fun _ h => h) (fun i hi e => absurd e (O5.out.notBelow hi))
    have O6 := Lib.hid ho6
    have L6 : Hid ((PL.take a ++ T).length = a + 8) := by show (PL.take a ++ T).length = a + 8; rw [List.length_append, L5.out, HTL.out]
    clear ho6 hk6 O5 N5
    go_wp2_with fail
    refine (BLm.out _).mono ?_
    rintro e w7 ⟨v7, rfl, o7, k7⟩
    obtain ⟨A7, c7, rfl, bs7, -⟩ := o7.shape
    rw [List.length_replicate] at bs7 ⊢
    have N7 : Hid (Keeps None w4 w7) := N6.out.trans k7 (fun _ h => h) (fun _ _ h => h)
    have O7 := Lib.hid (O6.out.keeps k7 (fun _ _ h => h))
    have B7 := Lib.hid bs7
    clear o7 k7 bs7 O6 N6
    go_wp2_with (at_builtin; refine Hid.out ?_)
    refine Lib.hid ?_
    refine wpList_append_bs O7.out B7.out (by rw [L6.out]; omega) N7.out.size rfl rfl rfl rfl rfl ?_
    intro v8 w8 ho8 hk8
    rw [HX.out] at ho8
    have N8 : Hid (Keeps None w4 w8) := N7.out.trans hk8 (fun _ h => h) (fun i hi e => absurd e (O7.out.notBelow hi))
    obtain ⟨A8, c8, rfl, bs8, -⟩ := ho8.shape
    rw [HXL.out] at bs8 ⊢
    have B8 := Lib.hid bs8
    have l8 := bs8.le
    have m8 := bs8.max
    have X8 := Lib.hid (X4.out.trans N8.out (T := None) (fun _ h => h) (fun _ _ h => h))
    have P8 := Lib.hid (P4.out.keeps N8.out (fun _ _ _ _ _ h => h))
    have R8 := Lib.hid (N8.out.blk R4.out (fun h => h))
    clear ho8 hk8 bs8 O7 B7 N7 N8 X4 P4 R4 S4 L5 L6
    go_wp2_with fail
    refine (sget_any A8 _ c8 X w8 B8.out (by omega)).mono ?_
    rintro e w9 ⟨k', s', v9, bl, nn, ok, rfl, o9, k9, hg⟩
    have X9 := Lib.hid (X8.out.trans k9 (T := None) (fun _ h => h) (fun _ _ h => h))
    have P9 := Lib.hid (P8.out.keeps k9 (fun _ _ _ _ _ h => h))
    have B9 := Lib.hid (B8.out.keeps k9 (fun _ _ _ _ _ h => h))
    have R9 := Lib.hid (k9.blk R8.out (fun h => h))
    clear X8 P8 R8 B8 k9
    have hg2 : ok = true ∧ k' = k ∧ s' = s ∧ bl = zs ∧ nn = L := by
      rcases hg with ⟨h1, h2⟩ | ⟨_, h2, _⟩
      · rw [HG.out] at h2
        simp only [Option.some.injEq, Prod.mk.injEq] at h2
        exact ⟨h1, h2.1.symm, h2.2.1.symm, h2.2.2.1.symm, h2.2.2.2.symm⟩
      · rw [HG.out] at h2; cases h2
    obtain ⟨rfl, rfl, rfl, rfl, rfl⟩ := hg2
    obtain ⟨A9, cap9, rfl, bs9, -⟩ := o9.shape
    have S9 := Lib.hid bs9
    clear o9 bs9 hg HG
    have YB := Lib.hid ((B9.out.take (k := L) (by omega)))
    rw [HY.out] at YB
    have C1 := Lib.hid (fun o => run_str ((YB.out.alloc o).drew))
    have C2 := Lib.hid (fun o => run_str ((P9.out.alloc o).drew))
    have EQ := Lib.hid (strOf_beq YB.out.byte P9.out.byte)
    have YL : L ≤ L + 64 := by omega
    have YL2 : (L : Int) ≤ L + 64 := by omega
    generalize strOf Y = sy at *
    generalize strOf PL = sp at *
    have eq1 : (sy.toList == sp.toList) = true := by rw [EQ.out]; exact decide_eq_true HYP.out
    go_wp2
    obtain ⟨mS, mh⟩ : ∃ S : World → Prop, ∀ w', S w' ↔ (((convert 22 9 (.slice A8 L c8)).run Try.prog w' = .ok (.string sy) w') ∧ ((convert 22 9 (.slice (some ⟨b2, o2, none⟩) L cap2')).run Try.prog w' = .ok (.string sp) w')) := ⟨_, fun _ => Iff.rfl⟩
    have mk0 : ∀ x : Memb mS, (convert 22 9 (.slice A8 L c8)).run Try.prog x.at_ = .ok (.string sy) x.at_ := fun x => ((mh _).1 x.is).1
    have mk1 : ∀ x : Memb mS, (convert 22 9 (.slice (some ⟨b2, o2, none⟩) L cap2')).run Try.prog x.at_ = .ok (.string sp) x.at_ := fun x => ((mh _).1 x.is).2
    have mn : Nonempty (Memb mS) := ⟨⟨((w9.alloc (.cells #[.int .i64 k', .int .i64 s', .slice A9 bl.length cap9] 39))).drew, (mh _).2 ⟨C1.out _, C2.out _⟩⟩⟩
    have mH := Lib.hid mh
    clear mh
    refine wp_region_mix [] (InS mS) (by kernel_rfl) (by kernel_rfl) (InS.mk ((mH.out _).2 ⟨C1.out _, C2.out _⟩)) ?_
    refine wpMix_seg 8 (by kernel_rfl) (by decide) ?_
    simp only [List.take_succ_cons, List.take_zero, List.drop_succ_cons, List.drop_zero]
    repeat (first | go_big_quiet_step (fail) | (go_big_quiet_want; first | refine quiet_conv mk0 rfl rfl rfl (by simp only [Act.put, List.setIfInBounds_toArray, List.set_cons_succ, List.set_cons_zero]; rfl) ?_; go_big_quiet_on | refine quiet_conv mk1 rfl rfl rfl (by simp only [Act.put, List.setIfInBounds_toArray, List.set_cons_succ, List.set_cons_zero]; rfl) ?_; go_big_quiet_on))
    refine wpQuiet_nil ?_
    refine wpMix_nil ?_
    clear mk0 mk1 mn mH
    have R10 := Lib.hid (R9.out.alloc (.cells #[.int .i64 k', .int .i64 s', .slice A9 bl.length cap9] 39))
    have N10 := Lib.hid (Blk.new w9 [.int .i64 k', .int .i64 s', .slice A9 bl.length cap9] 39)
    have r0 := R10.out.cellD 0 _ rfl
    have r1 := R10.out.cellD 1 _ rfl
    have r2 := R10.out.cellD 2 _ rfl
    have n0 := N10.out.cellD 0 _ rfl
    have n1 := N10.out.cellD 1 _ rfl
    have n2 := N10.out.cellD 2 _ rfl
    have lt1 := R10.out.lt
    have lt2 := N10.out.lt
    clear eq1
    go_wp2_with fail
    refine (rsame_yes k' s' A A9 _ cap _ cap9 bl _ (((H1.out.keeps X9.out (fun _ _ _ _ _ h => h)).alloc _).drew) ((S9.out.alloc _).drew)).mono ?_
    rintro e w10 ⟨rfl, k10⟩
    have X10 := Lib.hid (((X9.out.alloc _).drew).trans k10 (T := None) (fun _ h => h) (fun _ _ h => h))
    clear k10
    go_wp2
    go_ret
    exact ⟨by first | rfl | simp, X10.out.below (fun _ _ h => h)⟩
  · have HG := Lib.hid (FF.out hYP)
    have HYP := Lib.hid hYP
    clear FT FF hYP
    clear h h2
    go_enter Try.func11, Try.ntmps11
    go_wp2_with fail
    refine (ALV.out _).mono ?_
    rintro e w1 ⟨rfl, hk1⟩
    have X1 := Lib.hid (((Keeps.refl None W).alloc (.cells #[.int .i64 k, .int .i64 s, .slice A n cap] 39)).trans hk1 (T := None) (fun _ h => h) (fun _ _ h => h))
    have R1 := Lib.hid (hk1.blk (Blk.new W [.int .i64 k, .int .i64 s, .slice A n cap] 39) (fun h => h))
    have y0 := R1.out.cellD 0 _ rfl
    have y1 := R1.out.cellD 1 _ rfl
    have y2 := R1.out.cellD 2 _ rfl
    clear hk1
    go_wp2_with fail
    refine (PUT.out _ (H1.out.keeps X1.out (fun _ _ _ _ _ h => h))).mono ?_
    rintro e w2 ⟨v2, rfl, o2, k2⟩
    obtain ⟨A2, cap2', rfl, bs2, -⟩ := o2.shape
    have X2 := Lib.hid (X1.out.trans k2 (T := None) (fun _ h => h) (fun _ _ h => h))
    have R2 := Lib.hid (k2.blk R1.out (fun h => h))
    have P2 := Lib.hid bs2
    have z0 := R2.out.cellD 0 _ rfl
    have z1 := R2.out.cellD 1 _ rfl
    have z2 := R2.out.cellD 2 _ rfl
    clear o2 k2 bs2 X1 R1 y0 y1 y2
    rw [HLL.out] at P2 ⊢
    have cle := P2.out.le
    have cmx := P2.out.max
    obtain ⟨b2, o2, hA2, hb2, -⟩ := P2.out.at_ (by omega)
    subst hA2
    have DT : Hid (Bs w2 (some ⟨b2, o2 + a, none⟩) 8 (cap2' - a) ((PL.drop a).take 8)) := (P2.out.drop (k := a) (by omega)).take (by omega)
    have Q2 := Lib.hid (H2.out.keeps X2.out (fun _ _ _ _ _ h => h))
    have hne : ¬ cap2' = a := by omega
    have h8 : a + 8 - a = 8 := by omega
    go_wp2
    obtain ⟨mS, mh⟩ : ∃ S : World → Prop, ∀ w', S w' ↔ (True) := ⟨_, fun _ => Iff.rfl⟩
    have mn : Nonempty (Memb mS) := ⟨⟨(w2).drew, (mh _).2 trivial⟩⟩
    have mH := Lib.hid mh
    clear mh
    refine wp_region_mix [0, 9] (InS mS) (by kernel_rfl) (by kernel_rfl) (InS.mk ((mH.out _).2 trivial)) ?_
    refine wpMix_eff (by kernel_rfl) ?_
    go_wp2_with fail
    refine (BL.out _).mono ?_
    rintro e w3 ⟨v3, rfl, o3, k3⟩
    obtain ⟨A3, c3, rfl, bs3, -⟩ := o3.shape
    go_wp2
    refine MixK.on (InS.mk ((mH.out _).2 trivial)) ?_
    refine wpMix_seg 8 (by kernel_rfl) (by decide) ?_
    simp only [List.take_succ_cons, List.take_zero, List.drop_succ_cons, List.drop_zero]
    repeat (go_big_quiet_step (fail))
    refine wpQuiet_nil ?_
    refine wpMix_eff (by kernel_rfl) ?_
    go_wp2_with fail
    refine (torn_any _ _ _ _ _ _ _ _ _ (blankN 8) _ ps _ bs3 (DT.out.drew.keeps k3 (fun _ _ _ _ _ h => h)) (Q2.out.drew.keeps k3 (fun _ _ _ _ _ h => h)) (by omega)).mono ?_
    rintro e w4 ⟨v4, rfl, o4, k4⟩
    rw [HT.out] at o4
    obtain ⟨A4, c4, rfl, bs4, -⟩ := o4.shape
    rw [HTL.out] at bs4 ⊢
    have K4 : Hid (Keeps None w2 w4) := ((Keeps.refl None w2).drew.trans k3 (fun _ h => h) (fun _ _ h => h)).trans k4 (fun _ h => h) (fun _ _ h => h)
    have S4 := Lib.hid bs4
    clear o3 k3 bs3 o4 k4 bs4
    go_wp2
    refine MixK.on (InS.mk ((mH.out _).2 trivial)) ?_
    refine wpMix_seg 1 (by kernel_rfl) (by decide) ?_
    simp only [List.take_succ_cons, List.take_zero, List.drop_succ_cons, List.drop_zero]
    repeat (go_big_quiet_step (fail))
    refine wpQuiet_nil ?_
    refine wpMix_nil ?_
    clear  mn mH
    clear hne h8 DT Q2 BL
    have X4 := Lib.hid (X2.out.trans K4.out (T := None) (fun _ h => h) (fun _ _ h => h))
    have P4 := Lib.hid (P2.out.keeps K4.out (fun _ _ _ _ _ h => h))
    have R4 := Lib.hid (K4.out.blk R2.out (fun h => h))
    clear X2 K4 P2 R2 z0 z1 z2
    go_wp2_with (at_builtin; refine Hid.out ?_)
    refine Lib.hid ?_
    refine wpList_append_bs (Own.nil _ w4.heap.size) (P4.out.take (k := a) (by omega)) (by simp; omega) (Nat.le_refl _) rfl rfl rfl rfl rfl ?_
    intro v5 w5 ho5 hk5
    rw [List.nil_append] at ho5
    have N5 : Hid (Keeps None w4 w5) := hk5.mono (fun i hi e => by simp [Value.ownBlock] at e)
    have O5 := Lib.hid ho5
    have L5 : Hid ((PL.take a).length = a) := by show (PL.take a).length = a; rw [List.length_take, HLL.out]; omega
    clear ho5 hk5
    go_wp2_with (at_builtin; refine Hid.out ?_)
    refine Lib.hid ?_
    refine wpList_append_bs O5.out (S4.out.keeps N5.out (fun _ _ _ _ _ h => h)) (by rw [L5.out]; omega) N5.out.size rfl rfl rfl rfl rfl ?_
    intro v6 w6 ho6 hk6
    have N6 : Hid (Keeps None w4 w6) := N5.out.trans hk6 (fun _ h => h) (fun i hi e => absurd e (O5.out.notBelow hi))
    have O6 := Lib.hid ho6
    have L6 : Hid ((PL.take a ++ T).length = a + 8) := by show (PL.take a ++ T).length = a + 8; rw [List.length_append, L5.out, HTL.out]
    clear ho6 hk6 O5 N5
    go_wp2_with fail
    refine (BLm.out _).mono ?_
    rintro e w7 ⟨v7, rfl, o7, k7⟩
    obtain ⟨A7, c7, rfl, bs7, -⟩ := o7.shape
    rw [List.length_replicate] at bs7 ⊢
    have N7 : Hid (Keeps None w4 w7) := N6.out.trans k7 (fun _ h => h) (fun _ _ h => h)
    have O7 := Lib.hid (O6.out.keeps k7 (fun _ _ h => h))
    have B7 := Lib.hid bs7
    clear o7 k7 bs7 O6 N6
    go_wp2_with (at_builtin; refine Hid.out ?_)
    refine Lib.hid ?_
    refine wpList_append_bs O7.out B7.out (by rw [L6.out]; omega) N7.out.size rfl rfl rfl rfl rfl ?_
    intro v8 w8 ho8 hk8
    rw [HX.out] at ho8
    have N8 : Hid (Keeps None w4 w8) := N7.out.trans hk8 (fun _ h => h) (fun i hi e => absurd e (O7.out.notBelow hi))
    obtain ⟨A8, c8, rfl, bs8, -⟩ := ho8.shape
    rw [HXL.out] at bs8 ⊢
    have B8 := Lib.hid bs8
    have l8 := bs8.le
    have m8 := bs8.max
    have X8 := Lib.hid (X4.out.trans N8.out (T := None) (fun _ h => h) (fun _ _ h => h))
    have P8 := Lib.hid (P4.out.keeps N8.out (fun _ _ _ _ _ h => h))
    have R8 := Lib.hid (N8.out.blk R4.out (fun h => h))
    clear ho8 hk8 bs8 O7 B7 N7 N8 X4 P4 R4 S4 L5 L6
    go_wp2_with fail
    refine (sget_any A8 _ c8 X w8 B8.out (by omega)).mono ?_
    rintro e w9 ⟨k', s', v9, bl, nn, ok, rfl, o9, k9, hg⟩
    have X9 := Lib.hid (X8.out.trans k9 (T := None) (fun _ h => h) (fun _ _ h => h))
    have P9 := Lib.hid (P8.out.keeps k9 (fun _ _ _ _ _ h => h))
    have B9 := Lib.hid (B8.out.keeps k9 (fun _ _ _ _ _ h => h))
    have R9 := Lib.hid (k9.blk R8.out (fun h => h))
    clear X8 P8 R8 B8 k9
    have hg2 : ok = false ∧ k' = 0 ∧ s' = 0 ∧ bl = [] ∧ nn = 0 := by
      rcases hg with ⟨_, h2⟩ | ⟨h1, _, h3, h4, h5, h6⟩
      · rw [HG.out] at h2; cases h2
      · exact ⟨h1, h3, h4, h5, h6⟩
    obtain ⟨rfl, rfl, rfl, rfl, rfl⟩ := hg2
    obtain ⟨A9, cap9, hv9, -, -⟩ := o9.shape
    have hv9' : v9 = .slice A9 0 cap9 := hv9
    subst hv9'
    clear o9 hv9 hg HG
    have YB := Lib.hid ((B9.out.take (k := L) (by omega)))
    rw [HY.out] at YB
    have C1 := Lib.hid (fun o => run_str ((YB.out.alloc o).drew))
    have C2 := Lib.hid (fun o => run_str ((P9.out.alloc o).drew))
    have EQ := Lib.hid (strOf_beq YB.out.byte P9.out.byte)
    have YL : L ≤ L + 64 := by omega
    have YL2 : (L : Int) ≤ L + 64 := by omega
    generalize strOf Y = sy at *
    generalize strOf PL = sp at *
    have eq1 : (sy.toList == sp.toList) = false := by rw [EQ.out]; exact decide_eq_false HYP.out
    go_wp2
    obtain ⟨mS, mh⟩ : ∃ S : World → Prop, ∀ w', S w' ↔ (((convert 22 9 (.slice A8 L c8)).run Try.prog w' = .ok (.string sy) w') ∧ ((convert 22 9 (.slice (some ⟨b2, o2, none⟩) L cap2')).run Try.prog w' = .ok (.string sp) w')) := ⟨_, fun _ => Iff.rfl⟩
    have mk0 : ∀ x : Memb mS, (convert 22 9 (.slice A8 L c8)).run Try.prog x.at_ = .ok (.string sy) x.at_ := fun x => ((mh _).1 x.is).1
    have mk1 : ∀ x : Memb mS, (convert 22 9 (.slice (some ⟨b2, o2, none⟩) L cap2')).run Try.prog x.at_ = .ok (.string sp) x.at_ := fun x => ((mh _).1 x.is).2
    have mn : Nonempty (Memb mS) := ⟨⟨((w9.alloc (.cells #[.int .i64 0, .int .i64 0, .slice A9 0 cap9] 39))).drew, (mh _).2 ⟨C1.out _, C2.out _⟩⟩⟩
    have mH := Lib.hid mh
    clear mh
    refine wp_region_mix [] (InS mS) (by kernel_rfl) (by kernel_rfl) (InS.mk ((mH.out _).2 ⟨C1.out _, C2.out _⟩)) ?_
    refine wpMix_seg 8 (by kernel_rfl) (by decide) ?_
    simp only [List.take_succ_cons, List.take_zero, List.drop_succ_cons, List.drop_zero]
    repeat (first | go_big_quiet_step (fail) | (go_big_quiet_want; first | refine quiet_conv mk0 rfl rfl rfl (by simp only [Act.put, List.setIfInBounds_toArray, List.set_cons_succ, List.set_cons_zero]; rfl) ?_; go_big_quiet_on | refine quiet_conv mk1 rfl rfl rfl (by simp only [Act.put, List.setIfInBounds_toArray, List.set_cons_succ, List.set_cons_zero]; rfl) ?_; go_big_quiet_on))
    refine wpQuiet_nil ?_
    refine wpMix_nil ?_
    clear mk0 mk1 mn mH
    have X10 := Lib.hid ((X9.out.alloc (.cells #[.int .i64 0, .int .i64 0, .slice A9 0 cap9] 39)).drew)
    clear eq1
    go_wp2
    go_ret
    exact ⟨by first | rfl | simp, X10.out.below (fun _ _ h => h)⟩
set_option maxRecDepth 100000 in
theorem SealTorn_lifted (os : Os) (started : os.Started) (H : Type) (enc : TypeId × Value → H) :
    ReturnsInHanded {} Try.checked os 11 .any (Rows.sealTornSpec.pre6 enc Try.prog Try.f11 Rows.sealTornRow.domain false) (Rows.sealTornSpec.post enc Try.prog Try.f11 false true false false) := by
  refine returnsInHanded_of_change (C := Try.checked) Try.own started (by kernel_rfl) Try.func11
    (ChangeSpec.witness6 (enc := enc) (C := Try.checked) false ⟨#[], #[.agg #[.int .i64 0, .int .i64 0, .slice none 0 0], .int .i64 0, .slice none 0 0], []⟩ 8 (by kernel_rfl) (by kernel_rfl) (by kernel_rfl) (by kernel_rfl)) ?_
  intro W base args ds gs before hval0 hW hcnd _
  have hval : ∀ (j : Nat) t v, Try.f11.params[j]? = some t → args[j]? = some v → Value.okWide Try.prog W .any base t v := hval0
  have hW' := hW
  obtain ⟨p, q, hA0, hV, rfl, hfz, hnd⟩ := hW
  have hA : DataW.TrodAll enc Try.prog W 0 (fun _ => true) true Try.f11.params.toList args.toList ds p := hA0
  rw [Try.params11] at hA hval
  obtain ⟨v0, vs0, d0, ds0, p0, q0, hargs, rfl, rfl, h0, r0⟩ := trodAll_cons hA
  obtain ⟨v1, vs1, d1, ds1, p1, q1, rfl, rfl, rfl, h1, r1⟩ := trodAll_cons r0
  obtain ⟨v2, vs2, d2, ds2, p2, q2, rfl, rfl, rfl, h2, r2⟩ := trodAll_cons r1
  obtain ⟨rfl, rfl, rfl⟩ := trodAll_nil r2
  obtain rfl : args = #[v0, v1, v2] := by cases args; simp_all
  obtain ⟨rfl, rfl⟩ := trodVars_none hV
  have k0 := h0
  have lt0 : ∀ x ∈ p0, x.block < W.heap.size := by obtain ⟨m, hm⟩ := k0; exact DataW.trod_lt m _ _ _ hm
  obtain ⟨rk0, rs0, a0, len0, cap0, z0, rfl, s0⟩ := open_record (hval 0 39 v0 rfl rfl) h0
  have k1 := h1
  have lt1 : ∀ x ∈ p1, x.block < W.heap.size := by obtain ⟨m, hm⟩ := k1; exact DataW.trod_lt m _ _ _ hm
  obtain ⟨a1, rfl, rfl, rfl, w1⟩ := open_int Try.underlying3 (hval 1 3 v1 rfl rfl) h1
  have k2 := h2
  have lt2 : ∀ x ∈ p2, x.block < W.heap.size := by obtain ⟨m, hm⟩ := k2; exact DataW.trod_lt m _ _ _ hm
  obtain ⟨a2, len2, cap2, rfl⟩ := okWide_slice Try.underlying22 (hval 2 22 v2 rfl rfl)
  obtain ⟨z2, s2⟩ := open_bs h2
  clear hA0 hval0
  refine (torn5_any rk0 rs0 a0 a2 len0 cap0 len2 cap2 z0 z2 a1 W s0 s2).mono fun e W' ⟨he, bel⟩ => ?_
  subst he
  exact ⟨_, rfl, _, _, _, [], _, [], hW', trodAll_mk1 (shut_bool Try.underlying4 _), (trodAll_cons_mk (Below.trod Try.laidOut (by kernel_rfl) (of_decide_eq_true (by kernel_rfl)) k0 bel lt0) (trodAll_cons_mk (Below.trod Try.laidOut (by kernel_rfl) (of_decide_eq_true (by kernel_rfl)) k1 bel lt1) (trodAll_cons_mk (Below.trod Try.laidOut (by kernel_rfl) (of_decide_eq_true (by kernel_rfl)) k2 bel lt2) trodAll_mk0))), rfl, bel.frame _, fun h => by cases h⟩

set_option maxRecDepth 100000 in
theorem SealTorn_closed : joinedFacts Try.checked.prog 11 Try.f11 Rows.sealTornSpec Rows.sealTornRow = true := by
  unfold joinedFacts
  rw [closed_laid, closed_maps, closed_heard, closed_plain, closed_mayEnter, closed_lifts, closed_make]
  kernel_rfl

theorem SealTorn_holds : Rows.SealTornSaid :=
  OpenClaim.holds_of_wide 11 Try.f11 rfl rfl rfl rfl rfl rfl rfl ⟨rfl, rfl, rfl, rfl, rfl⟩ rfl rfl rfl rfl rfl (by kernel_rfl) Try.func11 SealTorn_closed
    (of_decide_eq_true (by kernel_rfl)) (by unfold Func.isWrapper; first | (rw [if_pos (by decide +kernel)]; kernel_rfl) | (rw [if_neg (by decide +kernel)]; exact ⟨rfl, rfl⟩))
    (fun os started H enc _ => SealTorn_lifted os started H enc)
#print axioms SealTorn_holds
end Go.Proofs.Yteogaacdmoafpaa
