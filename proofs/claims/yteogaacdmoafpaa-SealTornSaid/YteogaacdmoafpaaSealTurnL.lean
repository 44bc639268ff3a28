/-
  For every record and every bit of it that does not tell how long it is, the law SealTurns returns true: with that bit turned it is no record. No condition.
-/
import Derived.Test.YteogaacdmoafpaaSealBackL
namespace Go.Proofs.Yteogaacdmoafpaa
open Go.RowKit Go.ChangeShapes Go.WideShapes Go.ChangeAt

theorem le4_inj {x y : Nat} (hx : x < 4294967296) (hy : y < 4294967296) (h : le4 x = le4 y) : x = y := by
  simp only [le4, List.cons.injEq, and_true] at h
  omega
theorem frontL_byte {k s : Int} {zs : List Int} (hf : fitsR k s zs.length) (hz : ∀ z ∈ zs, 0 ≤ z ∧ z ≤ 255) : ∀ z ∈ frontL k s zs, 0 ≤ z ∧ z ≤ 255 := by
  obtain ⟨f1, f2, f3, f4, f5⟩ := hf
  intro z hm
  simp only [frontL, List.mem_append] at hm
  rcases hm with ((hm | hm) | hm) | hm
  · simp only [headL, List.mem_cons, List.not_mem_nil, or_false] at hm
    rcases hm with rfl | rfl | rfl | rfl <;> omega
  · exact le4_byte _ (by omega) z hm
  · exact hz z hm
  · rw [(List.mem_replicate.1 hm).2]; decide
theorem tailL_len (F : List Int) : (tailL F).length = 8 := by simp [tailL, le4]
theorem natL_set (F : List Int) (i : Nat) (v : Int) : natL (F.set i v) = (natL F).set i v.toNat := by simp [natL, List.map_set]
theorem crc_set {F : List Int} (hF : ∀ z ∈ F, 0 ≤ z ∧ z ≤ 255) {i : Nat} (hi : i < F.length) {v : Int} (hv : 0 ≤ v ∧ v ≤ 255) (h : crcOf (natL (F.set i v)) = crcOf (natL F)) : v = F.getD i 0 := by
  have hb := natL_lt hF
  have hl : i < (natL F).length := by simpa [natL] using hi
  have e1 : natL F = (natL F).take i ++ (natL F)[i] :: (natL F).drop (i + 1) := by
    rw [← List.drop_eq_getElem_cons hl, List.take_append_drop]
  have e2 : (natL F).set i v.toNat = (natL F).take i ++ v.toNat :: (natL F).drop (i + 1) := by
    rw [List.set_eq_take_append_cons_drop, if_pos hl]
  rw [natL_set, e2] at h
  conv at h => rhs; rw [e1]
  have hx : (natL F)[i] = (F.getD i 0).toNat := by rw [getD_get 0 hi]; simp [natL]
  have hg := hF _ (getD_mem 0 hi)
  have := crcOf_one (fun z hz => hb z (List.mem_of_mem_take hz)) (fun z hz => hb z (List.mem_of_mem_drop hz)) (by omega) (hb _ (List.getElem_mem hl)) h
  rw [hx] at this
  omega
/-- A record with one byte changed, not in how long it is, is none. -/
theorem get_turn (k s : Int) (zs : List Int) (hf : fitsR k s zs.length) (hz : ∀ z ∈ zs, 0 ≤ z ∧ z ≤ 255) (i : Nat) (hi : i < (putL k s zs).length) (h2 : i ≠ 2) (h3 : i ≠ 3) (v : Int) (hv : 0 ≤ v ∧ v ≤ 255) (hne : v ≠ (putL k s zs).getD i 0) :
    getL ((putL k s zs).set i v) = none := by
  have hlen := putL_len k s zs hf
  have hco := putL_cons k s zs [] hf
  rw [List.append_nil] at hco
  have h5 := hf.2.2.2.2
  have hs : sizeZ zs.length = 16 + ((zs.length : Int) + 7) / 8 * 8 := if_neg (by omega)
  have hPF : putL k s zs = frontL k s zs ++ tailL (frontL k s zs) := if_pos hf
  have hFb := frontL_byte hf hz
  have g2 : ((putL k s zs).set i v).getD 2 0 = (zs.length : Int) % 256 := by
    have : ((putL k s zs).set i v).getD 2 0 = (putL k s zs).getD 2 0 := by simp [List.getD, List.getElem?_set, h2]
    rw [this, hco]; rfl
  have g3 : ((putL k s zs).set i v).getD 3 0 = (zs.length : Int) / 256 := by
    have : ((putL k s zs).set i v).getD 3 0 = (putL k s zs).getD 3 0 := by simp [List.getD, List.getElem?_set, h3]
    rw [this, hco]; rfl
  have hn : ((zs.length : Int) % 256) + ((zs.length : Int) / 256) * 256 = zs.length := by omega
  unfold getL
  rw [if_neg (by rw [List.length_set]; omega)]
  simp only [g2, g3, hn, List.length_set]
  rw [if_neg (by omega), if_neg]
  have ht : ((putL k s zs).set i v).take (sizeZ zs.length).toNat = (putL k s zs).set i v := List.take_of_length_le (by rw [List.length_set]; omega)
  rw [ht]
  generalize ((putL k s zs).set i v).getD 0 0 = a
  generalize ((putL k s zs).set i v).getD 4 0 + ((putL k s zs).set i v).getD 5 0 * 256 + ((putL k s zs).set i v).getD 6 0 * 65536 + ((putL k s zs).set i v).getD 7 0 * 16777216 = b
  generalize (((putL k s zs).set i v).drop 8).take (zs.length : Int).toNat = d
  intro he
  by_cases hf2 : fitsR a b d.length
  · have hX : putL a b d = frontL a b d ++ tailL (frontL a b d) := if_pos hf2
    have hlX := congrArg List.length he
    rw [List.length_set, hX, hPF] at hlX
    simp only [List.length_append, tailL_len] at hlX
    have hFl : (frontL a b d).length = (frontL k s zs).length := by omega
    rw [hX, hPF] at he
    rw [hPF] at hi hne
    rw [List.length_append, tailL_len] at hi
    generalize frontL k s zs = F at *
    generalize frontL a b d = F' at *
    by_cases hlt : i < F.length
    · rw [List.set_append_left _ _ hlt] at he
      obtain ⟨e1, e2⟩ := List.append_inj he (by rw [hFl, List.length_set])
      subst e1
      have e3 : le4 (crcOf (natL (F.set i v))) = le4 (crcOf (natL F)) := by
        have := congrArg (List.take 4) e2
        simpa [tailL, sumOf, le4] using this
      have hFb' : ∀ z ∈ F.set i v, 0 ≤ z ∧ z ≤ 255 := by
        intro z hz
        rcases List.mem_or_eq_of_mem_set hz with hz | rfl
        · exact hFb z hz
        · exact hv
      have e4 := le4_inj (crcOf_lt (natL_lt hFb')) (crcOf_lt (natL_lt hFb)) e3
      have e5 := crc_set hFb hlt hv e4
      refine hne ?_
      rw [e5]
      simp [List.getD, List.getElem?_append_left hlt]
    · rw [List.set_append_right _ _ (by omega)] at he
      obtain ⟨e1, e2⟩ := List.append_inj he hFl
      subst e1
      have hti : i - F'.length < (tailL F').length := by rw [tailL_len]; omega
      have e3 : (tailL F').getD (i - F'.length) 0 = v := by
        rw [e2]; simp [List.getD, List.getElem?_set, hti]
      refine hne ?_
      rw [← e3]
      simp [List.getD, List.getElem?_append_right (show F'.length ≤ i by omega)]
  · have : putL a b d = [] := if_neg hf2
    rw [this] at he
    have := congrArg List.length he
    rw [List.length_set] at this
    simp at this
    omega

theorem xor_ne (x j : Nat) : x ^^^ 2 ^ j ≠ x := by
  intro h
  have h2 := congrArg (x ^^^ ·) h
  simp only [← Nat.xor_assoc, Nat.xor_self, Nat.zero_xor] at h2
  exact absurd h2 (Nat.pos_iff_ne_zero.1 (Nat.two_pow_pos j))
set_option maxRecDepth 100000 in
set_option maxHeartbeats 3200000 in
theorem turns5_any (k s : Int) (A : Option Addr) (n cap : Nat) (zs : List Int) (bit : Int) (W : World) (h : Bs W A n cap zs) :
    Calls Try.prog 9 #[.agg #[.int .i64 k, .int .i64 s, .slice A n cap], .int .i64 bit] W fun e w' => e = .returned (.bool true) ∧ Below W.heap.size W w' := by
  have ALV : Hid (∀ w, Calls Try.prog 37 #[] w fun e w' => e = .returned (.bool true) ∧ Keeps None w w') := alive5_any
  have hle := h.le
  have hmx := h.max
  have H1 := Lib.hid h
  have PUT := Lib.hid (fun w hh => sput_all k s A n cap zs w hh)
  have HZ := Lib.hid h.byte
  have PLN := Lib.hid (fun (hp : 0 < (putL k s zs).length) => show fitsR k s zs.length from by
    by_cases hf : fitsR k s zs.length
    · exact hf
    · have : putL k s zs = [] := if_neg hf
      rw [this] at hp; simp at hp)
  have PLM := Lib.hid (show (putL k s zs).length ≤ 600 from by
    by_cases hf : fitsR k s zs.length
    · have := putL_len k s zs hf
      have e : sizeZ zs.length = 16 + ((zs.length : Int) + 7) / 8 * 8 := if_neg (by have := hf.2.2.2.2; omega)
      have := hf.2.2.2.2
      omega
    · have : putL k s zs = [] := if_neg hf
      rw [this]; simp)
  have GT := Lib.hid (fun (hf : fitsR k s zs.length) i hi h2 h3 v hv hne => get_turn k s zs hf HZ.out i hi h2 h3 v hv hne)
  obtain ⟨PL, hPL⟩ : ∃ PL, PL = putL k s zs := ⟨_, rfl⟩
  rw [← hPL] at PUT PLN PLM GT
  clear hPL
  obtain ⟨L, hL⟩ : ∃ L, PL.length = L := ⟨_, rfl⟩
  rw [hL] at PLN PLM GT
  have HLL := Lib.hid hL
  have L600 := PLM.out
  clear hL PLM
  by_cases g1 : 600 < n
  · have d1 : decide (600 < (n : Int)) = true := decide_eq_true (by omega)
    clear h
    go_enter Try.func9, Try.ntmps9
    go_wp2_with fail
    refine (ALV.out _).mono ?_
    rintro e w1 ⟨rfl, hk1⟩
    have X1 := Lib.hid (((Keeps.refl None W).alloc (.cells #[.int .i64 k, .int .i64 s, .slice A n cap] 39)).trans hk1 (T := None) (fun _ h => h) (fun _ _ h => h))
    have R1 := Lib.hid (hk1.blk (Blk.new W [.int .i64 k, .int .i64 s, .slice A n cap] 39) (fun h => h))
    have y0 := R1.out.cellD 0 _ rfl
    have y1 := R1.out.cellD 1 _ rfl
    have y2 := R1.out.cellD 2 _ rfl
    clear hk1
    go_wp2_with fail
    refine (PUT.out _ (H1.out.keeps X1.out (fun _ _ _ _ _ h => h))).mono ?_
    rintro e w2 ⟨v2, rfl, o2, k2⟩
    obtain ⟨A2, cap2', rfl, bs2, -⟩ := o2.shape
    have X2 := Lib.hid (X1.out.trans k2 (T := None) (fun _ h => h) (fun _ _ h => h))
    have R2 := Lib.hid (k2.blk R1.out (fun h => h))
    have P2 := Lib.hid bs2
    have z0 := R2.out.cellD 0 _ rfl
    have z1 := R2.out.cellD 1 _ rfl
    have z2 := R2.out.cellD 2 _ rfl
    clear o2 k2 bs2 X1 R1 y0 y1 y2
    rw [HLL.out] at P2 ⊢
    have cle := P2.out.le
    have cmx := P2.out.max
    go_wp2
    go_ret
    exact ⟨rfl, X2.out.below (fun _ _ h => h)⟩
  have d1 : decide (600 < (n : Int)) = false := decide_eq_false (by omega)
  by_cases g2 : bit < 0
  · have d2 : decide (bit < 0) = true := decide_eq_true g2
    clear h
    go_enter Try.func9, Try.ntmps9
    go_wp2_with fail
    refine (ALV.out _).mono ?_
    rintro e w1 ⟨rfl, hk1⟩
    have X1 := Lib.hid (((Keeps.refl None W).alloc (.cells #[.int .i64 k, .int .i64 s, .slice A n cap] 39)).trans hk1 (T := None) (fun _ h => h) (fun _ _ h => h))
    have R1 := Lib.hid (hk1.blk (Blk.new W [.int .i64 k, .int .i64 s, .slice A n cap] 39) (fun h => h))
    have y0 := R1.out.cellD 0 _ rfl
    have y1 := R1.out.cellD 1 _ rfl
    have y2 := R1.out.cellD 2 _ rfl
    clear hk1
    go_wp2_with fail
    refine (PUT.out _ (H1.out.keeps X1.out (fun _ _ _ _ _ h => h))).mono ?_
    rintro e w2 ⟨v2, rfl, o2, k2⟩
    obtain ⟨A2, cap2', rfl, bs2, -⟩ := o2.shape
    have X2 := Lib.hid (X1.out.trans k2 (T := None) (fun _ h => h) (fun _ _ h => h))
    have R2 := Lib.hid (k2.blk R1.out (fun h => h))
    have P2 := Lib.hid bs2
    have z0 := R2.out.cellD 0 _ rfl
    have z1 := R2.out.cellD 1 _ rfl
    have z2 := R2.out.cellD 2 _ rfl
    clear o2 k2 bs2 X1 R1 y0 y1 y2
    rw [HLL.out] at P2 ⊢
    have cle := P2.out.le
    have cmx := P2.out.max
    go_wp2
    go_ret
    exact ⟨rfl, X2.out.below (fun _ _ h => h)⟩
  obtain ⟨t, rfl⟩ : ∃ t : Nat, bit = t := ⟨bit.toNat, by omega⟩
  have d2 : decide ((t : Int) < 0) = false := decide_eq_false g2
  by_cases g3 : 8 * L ≤ t
  · have d3 : decide (8 * (L : Int) ≤ t) = true := decide_eq_true (by omega)
    have d4 : decide (8 * L ≤ t) = true := decide_eq_true g3
    clear h
    go_enter Try.func9, Try.ntmps9
    go_wp2_with fail
    refine (ALV.out _).mono ?_
    rintro e w1 ⟨rfl, hk1⟩
    have X1 := Lib.hid (((Keeps.refl None W).alloc (.cells #[.int .i64 k, .int .i64 s, .slice A n cap] 39)).trans hk1 (T := None) (fun _ h => h) (fun _ _ h => h))
    have R1 := Lib.hid (hk1.blk (Blk.new W [.int .i64 k, .int .i64 s, .slice A n cap] 39) (fun h => h))
    have y0 := R1.out.cellD 0 _ rfl
    have y1 := R1.out.cellD 1 _ rfl
    have y2 := R1.out.cellD 2 _ rfl
    clear hk1
    go_wp2_with fail
    refine (PUT.out _ (H1.out.keeps X1.out (fun _ _ _ _ _ h => h))).mono ?_
    rintro e w2 ⟨v2, rfl, o2, k2⟩
    obtain ⟨A2, cap2', rfl, bs2, -⟩ := o2.shape
    have X2 := Lib.hid (X1.out.trans k2 (T := None) (fun _ h => h) (fun _ _ h => h))
    have R2 := Lib.hid (k2.blk R1.out (fun h => h))
    have P2 := Lib.hid bs2
    have z0 := R2.out.cellD 0 _ rfl
    have z1 := R2.out.cellD 1 _ rfl
    have z2 := R2.out.cellD 2 _ rfl
    clear o2 k2 bs2 X1 R1 y0 y1 y2
    rw [HLL.out] at P2 ⊢
    have cle := P2.out.le
    have cmx := P2.out.max
    go_wp2
    go_ret
    exact ⟨rfl, X2.out.below (fun _ _ h => h)⟩
  have d3 : decide (8 * (L : Int) ≤ t) = false := decide_eq_false (by omega)
  have d4 : decide (8 * L ≤ t) = false := decide_eq_false g3
  obtain ⟨i, hi⟩ : ∃ i, t / 8 = i := ⟨_, rfl⟩
  have i1 : (t : Int) / 8 = i := by omega
  have iL : i < L := by omega
  by_cases g4 : i = 2
  · subst g4
    clear h
    go_enter Try.func9, Try.ntmps9
    go_wp2_with fail
    refine (ALV.out _).mono ?_
    rintro e w1 ⟨rfl, hk1⟩
    have X1 := Lib.hid (((Keeps.refl None W).alloc (.cells #[.int .i64 k, .int .i64 s, .slice A n cap] 39)).trans hk1 (T := None) (fun _ h => h) (fun _ _ h => h))
    have R1 := Lib.hid (hk1.blk (Blk.new W [.int .i64 k, .int .i64 s, .slice A n cap] 39) (fun h => h))
    have y0 := R1.out.cellD 0 _ rfl
    have y1 := R1.out.cellD 1 _ rfl
    have y2 := R1.out.cellD 2 _ rfl
    clear hk1
    go_wp2_with fail
    refine (PUT.out _ (H1.out.keeps X1.out (fun _ _ _ _ _ h => h))).mono ?_
    rintro e w2 ⟨v2, rfl, o2, k2⟩
    obtain ⟨A2, cap2', rfl, bs2, -⟩ := o2.shape
    have X2 := Lib.hid (X1.out.trans k2 (T := None) (fun _ h => h) (fun _ _ h => h))
    have R2 := Lib.hid (k2.blk R1.out (fun h => h))
    have P2 := Lib.hid bs2
    have z0 := R2.out.cellD 0 _ rfl
    have z1 := R2.out.cellD 1 _ rfl
    have z2 := R2.out.cellD 2 _ rfl
    clear o2 k2 bs2 X1 R1 y0 y1 y2
    rw [HLL.out] at P2 ⊢
    have cle := P2.out.le
    have cmx := P2.out.max
    go_wp2
    go_ret
    exact ⟨rfl, X2.out.below (fun _ _ h => h)⟩
  have d5 : ((i : Int) == 2) = false := by simp; omega
  by_cases g5 : i = 3
  · subst g5
    clear h
    go_enter Try.func9, Try.ntmps9
    go_wp2_with fail
    refine (ALV.out _).mono ?_
    rintro e w1 ⟨rfl, hk1⟩
    have X1 := Lib.hid (((Keeps.refl None W).alloc (.cells #[.int .i64 k, .int .i64 s, .slice A n cap] 39)).trans hk1 (T := None) (fun _ h => h) (fun _ _ h => h))
    have R1 := Lib.hid (hk1.blk (Blk.new W [.int .i64 k, .int .i64 s, .slice A n cap] 39) (fun h => h))
    have y0 := R1.out.cellD 0 _ rfl
    have y1 := R1.out.cellD 1 _ rfl
    have y2 := R1.out.cellD 2 _ rfl
    clear hk1
    go_wp2_with fail
    refine (PUT.out _ (H1.out.keeps X1.out (fun _ _ _ _ _ h => h))).mono ?_
    rintro e w2 ⟨v2, rfl, o2, k2⟩
    obtain ⟨A2, cap2', rfl, bs2, -⟩ := o2.shape
    have X2 := Lib.hid (X1.out.trans k2 (T := None) (fun _ h => h) (fun _ _ h => h))
    have R2 := Lib.hid (k2.blk R1.out (fun h => h))
    have P2 := Lib.hid bs2
    have z0 := R2.out.cellD 0 _ rfl
    have z1 := R2.out.cellD 1 _ rfl
    have z2 := R2.out.cellD 2 _ rfl
    clear o2 k2 bs2 X1 R1 y0 y1 y2
    rw [HLL.out] at P2 ⊢
    have cle := P2.out.le
    have cmx := P2.out.max
    go_wp2
    go_ret
    exact ⟨rfl, X2.out.below (fun _ _ h => h)⟩
  have d6 : ((i : Int) == 3) = false := by simp; omega
  obtain ⟨j, hj⟩ : ∃ j, t % 8 = j := ⟨_, rfl⟩
  have j1 : (t : Int) % 8 = j := by omega
  have j8 : j < 8 := by omega
  have HT := Lib.hid (GT.out (PLN.out (by omega)) i iL g4 g5)
  clear GT PLN hi hj g3 g4 g5
  clear h
  go_enter Try.func9, Try.ntmps9
  go_wp2_with fail
  refine (ALV.out _).mono ?_
  rintro e w1 ⟨rfl, hk1⟩
  have X1 := Lib.hid (((Keeps.refl None W).alloc (.cells #[.int .i64 k, .int .i64 s, .slice A n cap] 39)).trans hk1 (T := None) (fun _ h => h) (fun _ _ h => h))
  have R1 := Lib.hid (hk1.blk (Blk.new W [.int .i64 k, .int .i64 s, .slice A n cap] 39) (fun h => h))
  have y0 := R1.out.cellD 0 _ rfl
  have y1 := R1.out.cellD 1 _ rfl
  have y2 := R1.out.cellD 2 _ rfl
  clear hk1
  go_wp2_with fail
  refine (PUT.out _ (H1.out.keeps X1.out (fun _ _ _ _ _ h => h))).mono ?_
  rintro e w2 ⟨v2, rfl, o2, k2⟩
  obtain ⟨A2, cap2', rfl, bs2, -⟩ := o2.shape
  have X2 := Lib.hid (X1.out.trans k2 (T := None) (fun _ h => h) (fun _ _ h => h))
  have R2 := Lib.hid (k2.blk R1.out (fun h => h))
  have P2 := Lib.hid bs2
  have z0 := R2.out.cellD 0 _ rfl
  have z1 := R2.out.cellD 1 _ rfl
  have z2 := R2.out.cellD 2 _ rfl
  clear o2 k2 bs2 X1 R1 y0 y1 y2
  rw [HLL.out] at P2 ⊢
  have cle := P2.out.le
  have cmx := P2.out.max
  go_wp2_with (at_builtin; refine Hid.out ?_)
  refine Lib.hid ?_
  refine wpList_append_bs (Own.nil _ w2.heap.size) P2.out (by simp; omega) (Nat.le_refl _) rfl rfl rfl rfl rfl ?_
  intro v3 w3 ho3 hk3
  rw [List.nil_append] at ho3
  have X3 := Lib.hid (X2.out.trans hk3 (T := None) (fun _ h => h) (fun i hi e => by simp [Value.ownBlock] at e))
  obtain ⟨A3, cap3, rfl, bs3, -⟩ := ho3.shape
  rw [HLL.out] at bs3 ho3 ⊢
  obtain ⟨g, rfl, gg, gl, -, gle, gmx, gc, gf⟩ := ho3.at_ iL
  have PB := Lib.hid (byte_getD ho3.2 i)
  obtain ⟨x, hx⟩ : ∃ x : Nat, PL.getD i 0 = x := ⟨(PL.getD i 0).toNat, by have := PB.out; omega⟩
  have hx255 : x < 256 := by have := PB.out; omega
  rw [hx] at gc HT
  have O3 := Lib.hid ho3
  clear bs3 ho3 hk3 P2 z0 z1 z2 R2 PB hx PUT
  have hp8 : (2 : Nat) ^ j ≤ 128 := by
    have : (2 : Nat) ^ j ≤ 2 ^ 7 := Nat.pow_le_pow_right (by decide) (by omega)
    omega
  have eb0 : bits .xor .u8 (x : Int) ((2 : Int) ^ j % 256) = ((x ^^^ 2 ^ j : Nat) : Int) := by
    have e : ((2 : Int) ^ j % 256) = ((2 ^ j : Nat) : Int) := by
      have e2 : (2 : Int) ^ j = ((2 ^ j : Nat) : Int) := by simp
      rw [e2]
      generalize 2 ^ j = q at *
      omega
    rw [e]; exact u8_xor_nat x (2 ^ j) (by omega) (by omega)
  have hvl : x ^^^ 2 ^ j < 256 := Nat.xor_lt_two_pow (n := 8) (by omega) (by omega)
  have hvn := xor_ne x j
  obtain ⟨v, hv⟩ : ∃ v : Nat, x ^^^ 2 ^ j = v := ⟨_, rfl⟩
  rw [hv] at eb0 hvl hvn
  have EB := Lib.hid eb0
  clear eb0 hv hp8
  have ho4 := O3.out.store rfl i v (by omega) (by rw [HLL.out]; omega)
  have X4 := Lib.hid (X3.out.setCell ⟨g, i, none⟩ (.int .u8 v) (fun h => absurd h (by have := X2.out.size; show ¬ g < _; omega)))
  go_wp2_with fail
  rw [EB.out]
  obtain ⟨A4, cap4, hv4, bs4, -⟩ := ho4.shape
  have hh4 := HT.out (v : Int) ⟨by omega, by omega⟩ (fun h => hvn (by omega))
  have ln4 : (PL.set i (v : Int)).length = L := by rw [List.length_set]; exact HLL.out
  rw [ln4] at hv4 bs4
  rw [hv4]
  clear ho4 hvn hvl
  refine (sget_any A4 L cap4 _ _ bs4 (by omega)).mono ?_
  rintro e w6 ⟨kq, sq, v6, blq, nq, okq, rfl, o6, k6, hg⟩
  have hg2 : okq = false ∧ kq = 0 ∧ sq = 0 ∧ blq = [] ∧ nq = 0 := by
    rcases hg with ⟨_, h2⟩ | ⟨h1, _, h3, h4, h5, h6⟩
    · rw [hh4] at h2; cases h2
    · exact ⟨h1, h3, h4, h5, h6⟩
  obtain ⟨rfl, rfl, rfl, rfl, rfl⟩ := hg2
  obtain ⟨A6, cap6, hv6, -, -⟩ := o6.shape
  have hv6' : v6 = .slice A6 0 cap6 := hv6
  subst hv6'
  have X6 := Lib.hid (X4.out.trans k6 (T := None) (fun _ h => h) (fun _ _ h => h))
  clear o6 k6 hg hv6 hv4 hh4 bs4 ln4 X4 X3 X2 O3 HT EB HLL HZ
  go_wp2
  go_ret
  exact ⟨by first | rfl | simp, (X6.out.alloc _).below (fun _ _ h => h)⟩
set_option maxRecDepth 100000 in
theorem SealTurns_lifted (os : Os) (started : os.Started) (H : Type) (enc : TypeId × Value → H) :
    ReturnsInHanded {} Try.checked os 9 .any (Rows.sealTurnsSpec.pre6 enc Try.prog Try.f9 Rows.sealTurnsRow.domain false) (Rows.sealTurnsSpec.post enc Try.prog Try.f9 false true false false) := by
  refine returnsInHanded_of_change (C := Try.checked) Try.own started (by kernel_rfl) Try.func9
    (ChangeSpec.witness6 (enc := enc) (C := Try.checked) false ⟨#[], #[.agg #[.int .i64 0, .int .i64 0, .slice none 0 0], .int .i64 0], []⟩ 8 (by kernel_rfl) (by kernel_rfl) (by kernel_rfl) (by kernel_rfl)) ?_
  intro W base args ds gs before hval0 hW hcnd _
  have hval : ∀ (j : Nat) t v, Try.f9.params[j]? = some t → args[j]? = some v → Value.okWide Try.prog W .any base t v := hval0
  have hW' := hW
  obtain ⟨p, q, hA0, hV, rfl, hfz, hnd⟩ := hW
  have hA : DataW.TrodAll enc Try.prog W 0 (fun _ => true) true Try.f9.params.toList args.toList ds p := hA0
  rw [Try.params9] at hA hval
  obtain ⟨v0, vs0, d0, ds0, p0, q0, hargs, rfl, rfl, h0, r0⟩ := trodAll_cons hA
  obtain ⟨v1, vs1, d1, ds1, p1, q1, rfl, rfl, rfl, h1, r1⟩ := trodAll_cons r0
  obtain ⟨rfl, rfl, rfl⟩ := trodAll_nil r1
  obtain rfl : args = #[v0, v1] := by cases args; simp_all
  obtain ⟨rfl, rfl⟩ := trodVars_none hV
  have k0 := h0
  have lt0 : ∀ x ∈ p0, x.block < W.heap.size := by obtain ⟨m, hm⟩ := k0; exact DataW.trod_lt m _ _ _ hm
  obtain ⟨rk0, rs0, a0, len0, cap0, z0, rfl, s0⟩ := open_record (hval 0 39 v0 rfl rfl) h0
  have k1 := h1
  have lt1 : ∀ x ∈ p1, x.block < W.heap.size := by obtain ⟨m, hm⟩ := k1; exact DataW.trod_lt m _ _ _ hm
  obtain ⟨a1, rfl, rfl, rfl, w1⟩ := open_int Try.underlying3 (hval 1 3 v1 rfl rfl) h1
  clear hA0 hval0
  refine (turns5_any rk0 rs0 a0 len0 cap0 z0 a1 W s0).mono fun e W' ⟨he, bel⟩ => ?_
  subst he
  exact ⟨_, rfl, _, _, _, [], _, [], hW', trodAll_mk1 (shut_bool Try.underlying4 _), (trodAll_cons_mk (Below.trod Try.laidOut (by kernel_rfl) (of_decide_eq_true (by kernel_rfl)) k0 bel lt0) (trodAll_cons_mk (Below.trod Try.laidOut (by kernel_rfl) (of_decide_eq_true (by kernel_rfl)) k1 bel lt1) trodAll_mk0)), rfl, bel.frame _, fun h => by cases h⟩

set_option maxRecDepth 100000 in
theorem SealTurns_closed : joinedFacts Try.checked.prog 9 Try.f9 Rows.sealTurnsSpec Rows.sealTurnsRow = true := by
  unfold joinedFacts
  rw [closed_laid, closed_maps, closed_heard, closed_plain, closed_mayEnter, closed_lifts, closed_make]
  kernel_rfl

theorem SealTurns_holds : Rows.SealTurnsSaid :=
  OpenClaim.holds_of_wide 9 Try.f9 rfl rfl rfl rfl rfl rfl rfl ⟨rfl, rfl, rfl, rfl, rfl⟩ rfl rfl rfl rfl rfl (by kernel_rfl) Try.func9 SealTurns_closed
    (of_decide_eq_true (by kernel_rfl)) (by unfold Func.isWrapper; first | (rw [if_pos (by decide +kernel)]; kernel_rfl) | (rw [if_neg (by decide +kernel)]; exact ⟨rfl, rfl⟩))
    (fun os started H enc _ => SealTurns_lifted os started H enc)
#print axioms SealTurns_holds
end Go.Proofs.Yteogaacdmoafpaa
