
/- The walk of the reference's GetRecord. -/
import Derived.Test.YtdgjopejocfbeaaSR2
import Derived.Test.YtdgjopejocfbeaaMix4
namespace Go.Proofs.Ytdgjopejocfbeaa
open Go.RowKit

theorem num2b (a b : Nat) : numN [(a : Int), (b : Int)] = a + b * 256 := by simp [numN]; omega
theorem num4b (a b c d : Nat) : numN [(a : Int), (b : Int), (c : Int), (d : Int)] = a + b * 256 + c * 65536 + d * 16777216 := by simp [numN]; omega
theorem take_get2 {zs : List Int} {k : Nat} (h : k + 2 ≤ zs.length) : (zs.drop k).take 2 = [zs.getD k 0, zs.getD (k + 1) 0] := by
  rw [List.drop_eq_getElem_cons (by omega), List.take_succ_cons, List.drop_eq_getElem_cons (by omega), List.take_succ_cons, List.take_zero]
  simp [List.getD, show k < zs.length by omega, show k + 1 < zs.length by omega]
theorem take_get4 {zs : List Int} {k : Nat} (h : k + 4 ≤ zs.length) : (zs.drop k).take 4 = [zs.getD k 0, zs.getD (k + 1) 0, zs.getD (k + 2) 0, zs.getD (k + 3) 0] := by
  rw [List.drop_eq_getElem_cons (by omega), List.take_succ_cons, List.drop_eq_getElem_cons (by omega), List.take_succ_cons, List.drop_eq_getElem_cons (by omega), List.take_succ_cons, List.drop_eq_getElem_cons (by omega), List.take_succ_cons, List.take_zero]
  simp [List.getD, show k < zs.length by omega, show k + 1 < zs.length by omega, show k + 1 + 1 < zs.length by omega, show k + 1 + 1 + 1 < zs.length by omega]
theorem Own.lt2 {w : World} {B : Nat} {v : Value} {zs : List Int} (h : Own w B v zs) {b : Nat} (hb : v.ownBlock = some b) : b < w.heap.size := by
  rcases h.1.2 with ⟨rfl, _⟩ | ⟨g, cap, cur, rfl, hg, hgg, _⟩
  · cases hb
  · obtain rfl : g = b := by simpa [Value.ownBlock] using hb
    exact (Array.getElem?_eq_some_iff.1 hgg).1
set_option maxRecDepth 100000 in
set_option maxHeartbeats 3200000 in
theorem rsget_any (A : Option Addr) (L cap : Nat) (zs : List Int) (w : World) (h : Bs w A L cap zs) (hL : L ≤ 1000000) : Calls Try.prog 9 #[.slice A L cap] w (GetTold w zs) := by
  have hl := h.len
  have hle := h.le
  have hmx := h.max
  by_cases g1 : L < 16
  · have d1 : decide ((L : Int) < 16) = true := decide_eq_true (by omega)
    have GN : Hid (getL zs = none) := by unfold getL; exact if_pos (by omega)
    clear h
    go_enter Try.func9, Try.ntmps9
    go_wp2
    refine bodyPost_ret (get_res _ (Blk.new w [.int .i64 0, .int .i64 0, .slice none 0 0] 24) rfl rfl rfl) rfl ?_
    exact ⟨0, 0, _, [], 0, false, rfl, Own.nil _ _, (Keeps.refl None w).alloc _, .inr ⟨rfl, GN.out, rfl, rfl, rfl, rfl⟩⟩
  have d1 : decide ((L : Int) < 16) = false := decide_eq_false (by omega)
  obtain ⟨bl, off, z0, rfl, hz0, a0, b0, x0⟩ := h.get (i := 0) (by omega)
  have hb := h.byte
  have gb : ∀ i, 0 ≤ zs.getD i 0 ∧ zs.getD i 0 ≤ 255 := fun i => byte_getD hb i
  obtain ⟨c0, rfl⟩ : ∃ c : Nat, z0 = c := ⟨z0.toNat, by omega⟩
  obtain ⟨c2, hc2⟩ : ∃ c : Nat, zs.getD 2 0 = c := ⟨(zs.getD 2 0).toNat, by have := gb 2; omega⟩
  obtain ⟨c3, hc3⟩ : ∃ c : Nat, zs.getD 3 0 = c := ⟨(zs.getD 3 0).toNat, by have := gb 3; omega⟩
  obtain ⟨c4, hc4⟩ : ∃ c : Nat, zs.getD 4 0 = c := ⟨(zs.getD 4 0).toNat, by have := gb 4; omega⟩
  obtain ⟨c5, hc5⟩ : ∃ c : Nat, zs.getD 5 0 = c := ⟨(zs.getD 5 0).toNat, by have := gb 5; omega⟩
  obtain ⟨c6, hc6⟩ : ∃ c : Nat, zs.getD 6 0 = c := ⟨(zs.getD 6 0).toNat, by have := gb 6; omega⟩
  obtain ⟨c7, hc7⟩ : ∃ c : Nat, zs.getD 7 0 = c := ⟨(zs.getD 7 0).toNat, by have := gb 7; omega⟩
  obtain ⟨nn, hnn⟩ : ∃ nn, nn = c2 + c3 * 256 := ⟨_, rfl⟩
  obtain ⟨s3, hs3⟩ : ∃ s3, s3 = c4 + c5 * 256 + c6 * 65536 + c7 * 16777216 := ⟨_, rfl⟩
  have s3b : s3 < 4294967296 := by have := gb 4; have := gb 5; have := gb 6; have := gb 7; omega
  have nnb : nn < 65536 := by have := gb 2; have := gb 3; omega
  have HB := Lib.hid h
  have N2 : Hid (numN ((zs.drop 2).take 2) = nn) := by show _ = _; rw [take_get2 (by omega), hc2, show zs.getD (2 + 1) 0 = c3 from hc3, num2b, hnn]
  have N4 : Hid (numN ((zs.drop 4).take 4) = s3) := by show _ = _; rw [take_get4 (by omega), hc4, show zs.getD (4 + 1) 0 = c5 from hc5, show zs.getD (4 + 2) 0 = c6 from hc6, show zs.getD (4 + 3) 0 = c7 from hc7, num4b, hs3]
  have XC := Lib.hid (fun (w' : World) (hk : Keeps None w w') => show w'.cell? ⟨bl, off, none⟩ = some (.int .u8 c0) from by
    have hbl : bl < w.heap.size := by obtain ⟨b', o', e, hb, _⟩ := h.at_ (by omega); cases e; exact hb
    exact (hk.cell hbl (fun h => h)).trans x0)
  have GL : Hid (getL zs = if sizeZ nn = 0 ∨ (L : Int) < sizeZ nn then none else if putL c0 s3 ((zs.drop 8).take nn) = zs.take (sizeZ nn).toNat then some ((c0 : Int), (s3 : Int), (zs.drop 8).take nn, sizeZ nn) else none) := by
    show getL zs = _
    unfold getL
    rw [if_neg (by omega), hz0, hc2, hc3, hc4, hc5, hc6, hc7]
    have q1 : (c2 : Int) + c3 * 256 = nn := by omega
    have q2 : (c4 : Int) + c5 * 256 + c6 * 65536 + c7 * 16777216 = s3 := by omega
    simp only [q1, q2, hl, Int.toNat_natCast]
  have hc2n : ¬ cap = 2 := by omega
  have hc4n : ¬ cap = 4 := by omega
  have hc8n : ¬ cap = 8 := by omega
  have P2 := Lib.hid ((HB.out.drop (k := 2) (by omega)).take (k := 2) (by omega))
  have P4 := Lib.hid ((HB.out.drop (k := 4) (by omega)).take (k := 4) (by omega))


  obtain ⟨p2, hp2⟩ : ∃ x, (zs.drop 2).take 2 = x := ⟨_, rfl⟩
  obtain ⟨p4, hp4⟩ : ∃ x, (zs.drop 4).take 4 = x := ⟨_, rfl⟩
  rw [hp2] at N2 P2
  rw [hp4] at N4 P4
  have NU2 := Lib.hid (fun w' (h' : Bs w' (some ⟨bl, off + 2, none⟩) 2 (cap - 2) p2) => rsnumber_any _ 2 _ p2 w' h' (by decide))
  have NU4 := Lib.hid (fun w' (h' : Bs w' (some ⟨bl, off + 4, none⟩) 4 (cap - 4) p4) => rsnumber_any _ 4 _ p4 w' h' (by decide))
  rw [N2.out] at NU2
  rw [N4.out] at NU4
  have i0 : 0 < L := by omega
  have i16 : 16 ≤ L := by omega
  clear h hl hb gb hz0 hc2 hc3 hc4 hc5 hc6 hc7 hnn hs3 x0 hp2 hp4 N2 N4 g1
  go_enter Try.func9, Try.ntmps9
  go_wp2_with fail
  obtain ⟨wb, hwb⟩ : ∃ x, w.alloc (.cells #[.int .i64 0, .int .i64 0, .slice none 0 0] 24) = x := ⟨_, rfl⟩
  have BB : Hid (Blk wb w.heap.size [.int .i64 0, .int .i64 0, .slice none 0 0] 24) := by rw [← hwb]; exact Blk.new w [.int .i64 0, .int .i64 0, .slice none 0 0] 24
  have KB : Hid (Keeps None w wb) := by rw [← hwb]; exact (Keeps.refl None w).alloc _
  rw [hwb]
  clear hwb
  refine (NU2.out wb (P2.out.keeps KB.out (fun _ _ _ _ _ h => h))).mono ?_
  rintro e w' ⟨rfl, rfl⟩
  go_wp2_with fail
  refine (rssize_any nn _).mono ?_
  rintro e w' ⟨rfl, rfl⟩
  by_cases g2 : 512 < nn
  · have z1 : sizeZ nn = 0 := if_pos (.inr (by omega))
    have GN : Hid (getL zs = none) := by rw [GL.out]; exact if_pos (.inl z1)
    rw [z1]
    clear GL HB XC
    have qq0 := Blk.cellD (BB.out) 0 _ rfl
    have qq1 := Blk.cellD (BB.out) 1 _ rfl
    have qq2 := Blk.cellD (BB.out) 2 _ rfl
    have qf0 := Blk.frozen (BB.out) 0
    have qf1 := Blk.frozen (BB.out) 1
    have qf2 := Blk.frozen (BB.out) 2
    go_wp2
    refine bodyPost_ret (get_res _ ((((Blk.set (BB.out) 0 _)).set 1 _).set 2 _) rfl rfl rfl) rfl ?_
    exact ⟨0, 0, _, [], 0, false, rfl, Own.nil _ _, ((Keeps.setCell (KB.out) _ _ (fun h => absurd h (Nat.lt_irrefl _))).setCell _ _ (fun h => absurd h (Nat.lt_irrefl _))).setCell _ _ (fun h => absurd h (Nat.lt_irrefl _)), .inr ⟨rfl, GN.out, rfl, rfl, rfl, rfl⟩⟩
  obtain ⟨sz, hsz⟩ : ∃ sz : Nat, sizeZ nn = sz := ⟨(sizeZ nn).toNat, by unfold sizeZ; split <;> omega⟩
  have hsz2 : sz = 16 + (nn + 7) / 8 * 8 := by
    have : sizeZ nn = 16 + ((nn : Int) + 7) / 8 * 8 := if_neg (by omega)
    omega
  rw [hsz] at GL ⊢
  have szb : nn + 16 ≤ sz := by omega
  have szc : sz ≤ 600 := by omega
  clear hsz hsz2
  by_cases g3 : L < sz
  · have z1 : ((sz : Int) == 0) = false := by simp; omega
    have z2 : decide ((L : Int) < sz) = true := decide_eq_true (by omega)
    have GN : Hid (getL zs = none) := by rw [GL.out]; exact if_pos (.inr (by omega))
    clear GL HB XC
    have qq0 := Blk.cellD (BB.out) 0 _ rfl
    have qq1 := Blk.cellD (BB.out) 1 _ rfl
    have qq2 := Blk.cellD (BB.out) 2 _ rfl
    have qf0 := Blk.frozen (BB.out) 0
    have qf1 := Blk.frozen (BB.out) 1
    have qf2 := Blk.frozen (BB.out) 2
    go_wp2
    refine bodyPost_ret (get_res _ ((((Blk.set (BB.out) 0 _)).set 1 _).set 2 _) rfl rfl rfl) rfl ?_
    exact ⟨0, 0, _, [], 0, false, rfl, Own.nil _ _, ((Keeps.setCell (KB.out) _ _ (fun h => absurd h (Nat.lt_irrefl _))).setCell _ _ (fun h => absurd h (Nat.lt_irrefl _))).setCell _ _ (fun h => absurd h (Nat.lt_irrefl _)), .inr ⟨rfl, GN.out, rfl, rfl, rfl, rfl⟩⟩
  have z1 : ((sz : Int) == 0) = false := by simp; omega
  have z2 : decide ((L : Int) < sz) = false := decide_eq_false (by omega)
  have GL2 : Hid (getL zs = if putL c0 s3 ((zs.drop 8).take nn) = zs.take sz then some ((c0 : Int), (s3 : Int), (zs.drop 8).take nn, (sz : Int)) else none) := by
    show getL zs = _
    rw [GL.out, if_neg (show ¬ ((sz : Int) = 0 ∨ (L : Int) < sz) by omega), Int.toNat_natCast]
  clear GL
  have BODY := Lib.hid ((HB.out.drop (k := 8) (by omega)).take (k := nn) (by omega))
  have PRE := Lib.hid (HB.out.take (k := sz) (by omega))
  obtain ⟨bd, hbd⟩ : ∃ bd, (zs.drop 8).take nn = bd := ⟨_, rfl⟩
  rw [hbd] at BODY GL2
  have HBL := Lib.hid BODY.out.len
  have BODY8 : Hid (Bs w (some ⟨bl, off + 8, none⟩) (8 + nn - 8) (cap - 8) bd) := by show Bs _ _ _ _ _; rw [show 8 + nn - 8 = nn by omega]; exact BODY.out
  clear hbd HB
  go_wp2
  clear z1 z2
  have KC : Hid (Keeps None wb wb.drew) := (Keeps.refl None wb).drew
  obtain ⟨mS, mh⟩ : ∃ S : World → Prop, ∀ w', S w' ↔ (w'.cell? ⟨bl, off, none⟩ = some (.int .u8 c0)) := ⟨_, fun _ => Iff.rfl⟩
  have mk0 : ∀ x : Memb mS, x.at_.cell? ⟨bl, off, none⟩ = some (.int .u8 c0) := fun x => ((mh _).1 x.is)
  have mn : Nonempty (Memb mS) := ⟨⟨(wb).drew, (mh _).2 (XC.out _ KB.out.drew)⟩⟩
  have mH := Lib.hid mh
  clear mh
  refine wp_region_mixT [6, 12, 14, 15] (InS mS) 2 16 (by kernel_rfl) (by kernel_rfl) (by kernel_rfl) (by kernel_rfl) (InS.mk ((mH.out _).2 (XC.out _ KB.out.drew))) ?_
  refine wpT_node2 (us := [(0, 16)]) [(4, 3)] [(0, 4), (7, 9)] [(14, 1)] [(0, 14), (15, 1)] (by kernel_rfl) ?_ ?_
  ·
    refine wpPs_cons ?_
    try simp only [List.take_succ_cons, List.take_zero, List.drop_succ_cons, List.drop_zero, Nat.reduceSub]
    refine wpMix_seg 2 (by kernel_rfl) (by decide) ?_
    simp only [List.take_succ_cons, List.take_zero, List.drop_succ_cons, List.drop_zero, Nat.reduceSub]
    repeat (go_big_quiet_step (fail))
    refine wpQuiet_nil ?_
    refine wpMix_eff (by kernel_rfl) ?_
    go_wp2_with fail
    refine (NU4.out _ (P4.out.keeps (KB.out.trans KC.out (T := None) (fun _ h => h) (fun _ _ h => h)) (fun _ _ _ _ _ h => h))).mono ?_
    rintro e w' ⟨rfl, rfl⟩
    go_wp2
    refine MixK.on (InS.mk ((mH.out _).2 (XC.out _ (KB.out.trans KC.out (T := None) (fun _ h => h) (fun _ _ h => h))))) ?_
    refine wpMix_nil ?_
    refine wpPs_nil ?_
    refine wpT_node2 (us := [(0, 4), (7, 9)]) [(8, 5)] [(0, 4), (7, 1), (13, 3)] [(14, 1)] [(0, 4), (7, 7), (15, 1)] (by kernel_rfl) ?_ ?_
    ·
      refine wpPs_cons ?_
      try simp only [List.take_succ_cons, List.take_zero, List.drop_succ_cons, List.drop_zero, Nat.reduceSub]
      refine wpMix_seg 4 (by kernel_rfl) (by decide) ?_
      simp only [List.take_succ_cons, List.take_zero, List.drop_succ_cons, List.drop_zero, Nat.reduceSub]
      repeat (go_big_quiet_step (fail))
      refine wpQuiet_nil ?_
      refine wpMix_eff (by kernel_rfl) ?_
      go_wp2_with (at_builtin; refine Hid.out ?_)
      refine Lib.hid ?_
      refine wpList_append_bs (Own.nil _ _) (BODY8.out.keeps (KB.out.trans KC.out (T := None) (fun _ h => h) (fun _ _ h => h)) (fun _ _ _ _ _ h => h)) (by simp; omega) (Nat.le_refl _) rfl rfl rfl rfl rfl ?_
      intro v2 w2 ho2 hk2
      rw [List.nil_append] at ho2
      have kx : Keeps None _ w2 := hk2.mono (fun i hi e => by simp [Value.ownBlock] at e)
      obtain ⟨A2, cap2, rfl, -, in2⟩ := ho2.shape
      rw [HBL.out] at ho2 ⊢
      try have NN := Lib.hid (kx.blk NB.out (fun h => h))
      try have VN := Lib.hid (show ∀ b, (Value.slice A2 nn cap2).ownBlock = some b → ¬ b = nb from fun b e h => ho2.notBelow (i := b) (by rw [h]; exact NB.out.lt) e)
      try clear NB
      try have NB := NN
      try clear NN
      have V2 := Lib.hid (ho2.lower (B' := w.heap.size + 1) (Nat.le_trans BB.out.lt KC.out.size))
      have KD := Lib.hid (KC.out.trans kx (T := None) (fun _ h => h) (fun _ _ h => h))
      clear KC kx ho2 hk2 in2
      have KC := KD
      clear KD
      go_wp2
      refine MixK.on (InS.mk ((mH.out _).2 (XC.out _ (KB.out.trans KC.out (T := None) (fun _ h => h) (fun _ _ h => h))))) ?_
      refine wpMix_nil ?_
      refine wpPs_nil ?_
      refine wpT_leaf (ps := [(0, 4), (7, 1), (13, 3)]) (by kernel_rfl) ?_
      refine wpPs_cons ?_
      try simp only [List.take_succ_cons, List.take_zero, List.drop_succ_cons, List.drop_zero, Nat.reduceSub]
      refine wpMix_seg 4 (by kernel_rfl) (by decide) ?_
      simp only [List.take_succ_cons, List.take_zero, List.drop_succ_cons, List.drop_zero, Nat.reduceSub]
      repeat (go_big_quiet_step (fail))
      refine wpQuiet_nil ?_
      refine wpMix_nil ?_
      refine wpPs_cons ?_
      try simp only [List.take_succ_cons, List.take_zero, List.drop_succ_cons, List.drop_zero, Nat.reduceSub]
      refine wpMix_seg 1 (by kernel_rfl) (by decide) ?_
      simp only [List.take_succ_cons, List.take_zero, List.drop_succ_cons, List.drop_zero, Nat.reduceSub]
      repeat (go_big_quiet_step (fail))
      refine wpQuiet_nil ?_
      refine wpMix_nil ?_
      refine wpPs_cons ?_
      try simp only [List.take_succ_cons, List.take_zero, List.drop_succ_cons, List.drop_zero, Nat.reduceSub]
      refine wpMix_seg 1 (by kernel_rfl) (by decide) ?_
      simp only [List.take_succ_cons, List.take_zero, List.drop_succ_cons, List.drop_zero, Nat.reduceSub]
      repeat (go_big_quiet_step (fail))
      refine wpQuiet_nil ?_
      refine wpMix_eff (by kernel_rfl) ?_
      go_wp2
      first | (refine Exists.elim (⟨_, rfl⟩ : ∃ x, w2.alloc (.cells #[.int .i64 0, .int .i64 0, .slice none 0 0] 24) = x) fun wy hwy => ?_; refine Exists.elim (⟨_, rfl⟩ : ∃ x, w2.heap.size = x) fun nb hnb => ?_; rw [hwy, hnb]) | (refine Exists.elim (⟨_, rfl⟩ : ∃ x, (wb.alloc (.cells #[.int .i64 0, .int .i64 0, .slice none 0 0] 24)).drew = x) fun wy hwy => ?_; refine Exists.elim (⟨_, rfl⟩ : ∃ x, wb.heap.size = x) fun nb hnb => ?_; rw [hwy, hnb]) | (refine Exists.elim (⟨_, rfl⟩ : ∃ x, wb.drew.alloc (.cells #[.int .i64 0, .int .i64 0, .slice none 0 0] 24) = x) fun wy hwy => ?_; refine Exists.elim (⟨_, rfl⟩ : ∃ x, wb.heap.size = x) fun nb hnb => ?_; rw [hwy, hnb])
      have NB : Hid (Blk wy nb [.int .i64 0, .int .i64 0, .slice none 0 0] 24) := by rw [← hwy, ← hnb]; first | exact Blk.new _ [_, _, _] _ | exact (Blk.new _ [_, _, _] _).drew
      have NBL : Hid (wb.heap.size ≤ nb) := by rw [← hnb]; exact KC.out.size
      have KD : Hid (Keeps None wb wy) := by rw [← hwy]; first | exact KC.out.alloc _ | exact ((Keeps.refl None wb).alloc _).drew
      try have VN := Lib.hid (show ∀ b, (Value.slice A2 nn cap2).ownBlock = some b → ¬ b = nb from fun b e h => by have h1 := V2.out.lt2 e; have h2 : w2.heap.size = nb := hnb; omega)
      try have VV : Hid (Own wy (w.heap.size + 1) (.slice A2 nn cap2) bd) := by rw [← hwy]; exact V2.out.alloc _
      try clear V2
      try have V2 := VV
      try clear VV
      clear KC hwy hnb
      have KC := KD
      clear KD
      refine MixK.on (InS.mk ((mH.out _).2 (XC.out _ (KB.out.trans KC.out (T := None) (fun _ h => h) (fun _ _ h => h))))) ?_
      refine wpMix_eff (by kernel_rfl) ?_
      have nq0 := NB.out.cellD 0 _ rfl
      have nq1 := NB.out.cellD 1 _ rfl
      have nq2 := NB.out.cellD 2 _ rfl
      have nf0 := NB.out.frozen 0
      have nf1 := NB.out.frozen 1
      have nf2 := NB.out.frozen 2
      go_wp2
      first | (refine Exists.elim (⟨_, rfl⟩ : ∃ x, ((wy.setCell ⟨nb, 0, none⟩ (.int .i64 c0)).setCell ⟨nb, 1, none⟩ (.int .i64 s3)).setCell ⟨nb, 2, none⟩ (.slice A2 nn cap2) = x) fun w3 hw3 => ?_; rw [hw3]) | (refine Exists.elim (⟨_, rfl⟩ : ∃ x, ((w2.setCell ⟨nb, 0, none⟩ (.int .i64 c0)).setCell ⟨nb, 1, none⟩ (.int .i64 s3)).setCell ⟨nb, 2, none⟩ (.slice A2 nn cap2) = x) fun w3 hw3 => ?_; rw [hw3])
      have K3 := Lib.hid (show Keeps None w w3 from by rw [← hw3]; exact KB.out.trans (((KC.out.setCell _ _ (fun h => absurd h (Nat.not_lt.2 NBL.out))).setCell _ _ (fun h => absurd h (Nat.not_lt.2 NBL.out))).setCell _ _ (fun h => absurd h (Nat.not_lt.2 NBL.out))) (fun _ h => h) (fun _ _ h => h))
      have R3 := Lib.hid (show Blk w3 w.heap.size [.int .i64 0, .int .i64 0, .slice none 0 0] 24 from by rw [← hw3]; exact (((KC.out.setCell _ _ (fun h => absurd h (Nat.not_lt.2 NBL.out))).setCell _ _ (fun h => absurd h (Nat.not_lt.2 NBL.out))).setCell _ _ (fun h => absurd h (Nat.not_lt.2 NBL.out))).blk BB.out (fun h => h))
      have N3 := Lib.hid (show Blk w3 nb [.int .i64 c0, .int .i64 s3, .slice A2 nn cap2] 24 from by rw [← hw3]; exact ((NB.out.set 0 _).set 1 _).set 2 _)
      have V3 := Lib.hid (show Own w3 (w.heap.size + 1) (.slice A2 nn cap2) bd from by rw [← hw3]; exact V2.out.keeps (S := fun i => i = nb) ((((Keeps.refl (fun i => i = nb) _).put 0 _).put 1 _).put 2 _) (fun b e h => VN.out b e h))
      clear hw3 KC NB VN V2 nq0 nq1 nq2 nf0 nf1 nf2
      refine MixK.last (by kernel_rfl) ?_
      refine wpMix_nil ?_
      refine wpPs_nil ?_
      clear mk0 mn mH
      clear XC BODY BODY8 NU2 NU4 P2 P4
      have PUT := Lib.hid (fun w h => rsput_any c0 s3 A2 nn cap2 bd w h (by omega))
      have BD3 := Lib.hid (own_bs V3.out)
      have P3 := Lib.hid (PRE.out.keeps K3.out (fun _ _ _ _ _ h => h))
      obtain ⟨pl, HPL⟩ : ∃ x, Hid (putL c0 s3 bd = x) := ⟨_, rfl⟩
      rw [HPL.out] at PUT GL2
      obtain ⟨tk, HTK⟩ : ∃ x, Hid (zs.take sz = x) := ⟨_, rfl⟩
      rw [HTK.out] at P3 GL2
      obtain ⟨sb, HSB⟩ : ∃ x, Hid (strOf tk = x) := ⟨_, rfl⟩
      clear PRE
      go_wp2
      obtain ⟨mmS, mmh⟩ : ∃ S : World → Prop, ∀ w', S w' ↔ (w'.cell? ⟨nb, 0, none⟩ = some (.int .i64 c0) ∧ w'.cell? ⟨nb, 1, none⟩ = some (.int .i64 s3) ∧ w'.cell? ⟨nb, 2, none⟩ = some (.slice A2 nn cap2) ∧ ((convert 22 9 (.slice (some ⟨bl, off, none⟩) sz cap)).run Try.prog w' = .ok (.string sb) w')) := ⟨_, fun _ => Iff.rfl⟩
      have mmk0 : ∀ x : Memb mmS, x.at_.cell? ⟨nb, 0, none⟩ = some (.int .i64 c0) := fun x => ((mmh _).1 x.is).1
      have mmk1 : ∀ x : Memb mmS, x.at_.cell? ⟨nb, 1, none⟩ = some (.int .i64 s3) := fun x => ((mmh _).1 x.is).2.1
      have mmk2 : ∀ x : Memb mmS, x.at_.cell? ⟨nb, 2, none⟩ = some (.slice A2 nn cap2) := fun x => ((mmh _).1 x.is).2.2.1
      have mmk3 : ∀ x : Memb mmS, (convert 22 9 (.slice (some ⟨bl, off, none⟩) sz cap)).run Try.prog x.at_ = .ok (.string sb) x.at_ := fun x => ((mmh _).1 x.is).2.2.2
      have mmn : Nonempty (Memb mmS) := ⟨⟨(w3).drew, (mmh _).2 ⟨N3.out.cellD 0 _ rfl, N3.out.cellD 1 _ rfl, N3.out.cellD 2 _ rfl, HSB.out ▸ run_str P3.out.drew⟩⟩⟩
      have mmH := Lib.hid mmh
      clear mmh
      refine wp_region_mix2 [1] (InS mmS) (by kernel_rfl) (by kernel_rfl) (InS.mk ((mmH.out _).2 ⟨N3.out.cellD 0 _ rfl, N3.out.cellD 1 _ rfl, N3.out.cellD 2 _ rfl, HSB.out ▸ run_str P3.out.drew⟩)) ?_
      refine wpMix2_seg 1 (InS mmS) (by kernel_rfl) (by decide) (cl_base [] rfl (by kernel_rfl)) ?_
      simp only [List.take_succ_cons, List.take_zero, List.drop_succ_cons, List.drop_zero]
      repeat (first | go_big_quiet_step (fail) | (go_big_quiet_want; first | refine quiet_conv mmk3 rfl rfl rfl (by simp only [Act.put, List.setIfInBounds_toArray, List.set_cons_succ, List.set_cons_zero]; rfl) ?_; go_big_quiet_on))
      refine wpQuiet_nil ?_
      refine wpMix2_eff (by kernel_rfl) ?_
      go_wp2_with fail
      refine (PUT.out _ BD3.out.drew).mono ?_
      rintro e w5 ⟨v5, rfl, o5, k5⟩
      obtain ⟨A5, cap5, rfl, bs5, -⟩ := o5.shape
      have K5 := Lib.hid (K3.out.drew.trans k5 (T := None) (fun _ h => h) (fun _ _ h => h))
      have R5 := Lib.hid (k5.blk R3.out.drew (fun h => h))
      have N5 := Lib.hid (k5.blk N3.out.drew (fun h => h))
      have V5 := Lib.hid (V3.out.drew.keeps k5 (fun _ _ h => h))
      have P5 := Lib.hid (P3.out.drew.keeps k5 (fun _ _ _ _ _ h => h))
      have BS5 := Lib.hid bs5
      have QZ := strOf_beq bs5.byte P3.out.byte
      obtain ⟨sa, HSA⟩ : ∃ x, Hid (strOf pl = x) := ⟨_, rfl⟩
      obtain ⟨pb, HPB⟩ : ∃ b, Hid (decide (pl = tk) = b) := ⟨_, rfl⟩
      rw [HSA.out, HSB.out, HPB.out] at QZ
      clear o5 k5 bs5 K3 R3 V3 PUT BD3
      go_wp2
      obtain ⟨mmL2S, mmL2h⟩ : ∃ S : World → Prop, ∀ w', S w' ↔ (((convert 22 9 (.slice A5 pl.length cap5)).run Try.prog w' = .ok (.string sa) w')) := ⟨_, fun _ => Iff.rfl⟩
      have mmL2k0 : ∀ x : Memb mmL2S, (convert 22 9 (.slice A5 pl.length cap5)).run Try.prog x.at_ = .ok (.string sa) x.at_ := fun x => ((mmL2h _).1 x.is)
      have mmL2n : Nonempty (Memb mmL2S) := ⟨⟨_, (mmL2h _).2 (HSA.out ▸ run_str BS5.out)⟩⟩
      have mmL2H := Lib.hid mmL2h
      clear mmL2h
      refine MixK2.late (D := InS mmL2S) (x := 2) (by kernel_rfl) (cls_cons (InS.mk ((mmL2H.out _).2 (HSA.out ▸ run_str BS5.out))) (cls_base (InS.mk ((mmH.out _).2 (⟨N5.out.cellD 0 _ rfl, N5.out.cellD 1 _ rfl, N5.out.cellD 2 _ rfl, HSB.out ▸ run_str P5.out⟩))))) ?_
      refine wpMix2_seg 1 (InS mmL2S) (by kernel_rfl) (by decide) (cl_one rfl) ?_
      simp only [List.take_succ_cons, List.take_zero, List.drop_succ_cons, List.drop_zero]
      repeat (first | go_big_quiet_step (fail) | (go_big_quiet_want; first | refine quiet_conv mmk3 rfl rfl rfl (by simp only [Act.put, List.setIfInBounds_toArray, List.set_cons_succ, List.set_cons_zero]; rfl) ?_; go_big_quiet_on | refine quiet_conv mmL2k0 rfl rfl rfl (by simp only [Act.put, List.setIfInBounds_toArray, List.set_cons_succ, List.set_cons_zero]; rfl) ?_; go_big_quiet_on))
      refine wpQuiet_nil ?_
      refine wpMix2_seg 5 (InS mmS) (by kernel_rfl) (by decide) (cl_base [2] rfl (by kernel_rfl)) ?_
      simp only [List.take_succ_cons, List.take_zero, List.drop_succ_cons, List.drop_zero]
      repeat (first | go_big_quiet_step (fail) | (go_big_quiet_want; first | refine quiet_conv mmk3 rfl rfl rfl (by simp only [Act.put, List.setIfInBounds_toArray, List.set_cons_succ, List.set_cons_zero]; rfl) ?_; go_big_quiet_on | refine quiet_conv mmL2k0 rfl rfl rfl (by simp only [Act.put, List.setIfInBounds_toArray, List.set_cons_succ, List.set_cons_zero]; rfl) ?_; go_big_quiet_on))
      refine wpQuiet_nil ?_
      refine wpMix2_nil ?_
      clear mmk0 mmk1 mmk2 mmk3 mmn mmH mmL2k0 mmL2n mmL2H
      clear BS5 P5 P3
      cases pb with
      | true =>
        have hpb : pl = tk := of_decide_eq_true HPB.out
        have GS : Hid (getL zs = some ((c0 : Int), (s3 : Int), bd, (sz : Int))) := by
          show getL zs = _
          rw [GL2.out]; exact if_pos hpb
        have rq0 := N5.out.cellD 0 _ rfl
        have rq1 := N5.out.cellD 1 _ rfl
        have rq2 := N5.out.cellD 2 _ rfl
        have qq0 := R5.out.cellD 0 _ rfl
        have qq1 := R5.out.cellD 1 _ rfl
        have qq2 := R5.out.cellD 2 _ rfl
        have qf0 := R5.out.frozen 0
        have qf1 := R5.out.frozen 1
        have qf2 := R5.out.frozen 2
        clear hpb HPB GL2 HSA HSB HPL HTK
        go_wp2
        refine bodyPost_ret (get_res _ ((((Blk.set (R5.out) 0 _)).set 1 _).set 2 _) rfl rfl rfl) rfl ?_
        exact ⟨c0, s3, _, bd, sz, true, rfl, ((V5.out.keeps (S := fun i => i = w.heap.size) ((((Keeps.refl (fun i => i = w.heap.size) w5).put 0 _).put 1 _).put 2 _) (fun b e h => V5.out.notBelow (i := b) (by omega) e)).lower (Nat.le_succ _)), ((K5.out.setCell _ _ (fun h => absurd h (Nat.lt_irrefl _))).setCell _ _ (fun h => absurd h (Nat.lt_irrefl _))).setCell _ _ (fun h => absurd h (Nat.lt_irrefl _)), .inl ⟨rfl, GS.out⟩⟩
      | false =>
        have hpb : ¬ pl = tk := of_decide_eq_false HPB.out
        have GN : Hid (getL zs = none) := by
          show getL zs = none
          rw [GL2.out]; exact if_neg hpb
        clear GL2 V5 N5 hpb HPB HSA HSB HPL HTK
        have qq0 := Blk.cellD (R5.out) 0 _ rfl
        have qq1 := Blk.cellD (R5.out) 1 _ rfl
        have qq2 := Blk.cellD (R5.out) 2 _ rfl
        have qf0 := Blk.frozen (R5.out) 0
        have qf1 := Blk.frozen (R5.out) 1
        have qf2 := Blk.frozen (R5.out) 2
        go_wp2
        refine bodyPost_ret (get_res _ ((((Blk.set (R5.out) 0 _)).set 1 _).set 2 _) rfl rfl rfl) rfl ?_
        exact ⟨0, 0, _, [], 0, false, rfl, Own.nil _ _, ((Keeps.setCell (K5.out) _ _ (fun h => absurd h (Nat.lt_irrefl _))).setCell _ _ (fun h => absurd h (Nat.lt_irrefl _))).setCell _ _ (fun h => absurd h (Nat.lt_irrefl _)), .inr ⟨rfl, GN.out, rfl, rfl, rfl, rfl⟩⟩
    ·
      refine wpPs_cons ?_
      try simp only [List.take_succ_cons, List.take_zero, List.drop_succ_cons, List.drop_zero, Nat.reduceSub]
      refine wpMix_eff (by kernel_rfl) ?_
      go_wp2
      first | (refine Exists.elim (⟨_, rfl⟩ : ∃ x, w2.alloc (.cells #[.int .i64 0, .int .i64 0, .slice none 0 0] 24) = x) fun wy hwy => ?_; refine Exists.elim (⟨_, rfl⟩ : ∃ x, w2.heap.size = x) fun nb hnb => ?_; rw [hwy, hnb]) | (refine Exists.elim (⟨_, rfl⟩ : ∃ x, (wb.alloc (.cells #[.int .i64 0, .int .i64 0, .slice none 0 0] 24)).drew = x) fun wy hwy => ?_; refine Exists.elim (⟨_, rfl⟩ : ∃ x, wb.heap.size = x) fun nb hnb => ?_; rw [hwy, hnb]) | (refine Exists.elim (⟨_, rfl⟩ : ∃ x, wb.drew.alloc (.cells #[.int .i64 0, .int .i64 0, .slice none 0 0] 24) = x) fun wy hwy => ?_; refine Exists.elim (⟨_, rfl⟩ : ∃ x, wb.heap.size = x) fun nb hnb => ?_; rw [hwy, hnb])
      have NB : Hid (Blk wy nb [.int .i64 0, .int .i64 0, .slice none 0 0] 24) := by rw [← hwy, ← hnb]; first | exact Blk.new _ [_, _, _] _ | exact (Blk.new _ [_, _, _] _).drew
      have NBL : Hid (wb.heap.size ≤ nb) := by rw [← hnb]; exact KC.out.size
      have KD : Hid (Keeps None wb wy) := by rw [← hwy]; first | exact KC.out.alloc _ | exact ((Keeps.refl None wb).alloc _).drew
      try have VN := Lib.hid (show ∀ b, (Value.slice A2 nn cap2).ownBlock = some b → ¬ b = nb from fun b e h => by have h1 := V2.out.lt2 e; have h2 : w2.heap.size = nb := hnb; omega)
      try have VV : Hid (Own wy (w.heap.size + 1) (.slice A2 nn cap2) bd) := by rw [← hwy]; exact V2.out.alloc _
      try clear V2
      try have V2 := VV
      try clear VV
      clear KC hwy hnb
      have KC := KD
      clear KD
      refine MixK.on (InS.mk ((mH.out _).2 (XC.out _ (KB.out.trans KC.out (T := None) (fun _ h => h) (fun _ _ h => h))))) ?_
      refine wpMix_nil ?_
      refine wpPs_nil ?_
      refine wpT_leaf (ps := [(0, 4), (7, 7), (15, 1)]) (by kernel_rfl) ?_
      refine wpPs_cons ?_
      try simp only [List.take_succ_cons, List.take_zero, List.drop_succ_cons, List.drop_zero, Nat.reduceSub]
      refine wpMix_seg 4 (by kernel_rfl) (by decide) ?_
      simp only [List.take_succ_cons, List.take_zero, List.drop_succ_cons, List.drop_zero, Nat.reduceSub]
      repeat (go_big_quiet_step (fail))
      refine wpQuiet_nil ?_
      refine wpMix_nil ?_
      refine wpPs_cons ?_
      try simp only [List.take_succ_cons, List.take_zero, List.drop_succ_cons, List.drop_zero, Nat.reduceSub]
      refine wpMix_seg 5 (by kernel_rfl) (by decide) ?_
      simp only [List.take_succ_cons, List.take_zero, List.drop_succ_cons, List.drop_zero, Nat.reduceSub]
      repeat (go_big_quiet_step (fail))
      refine wpQuiet_nil ?_
      refine wpMix_eff (by kernel_rfl) ?_
      go_wp2_with (at_builtin; refine Hid.out ?_)
      refine Lib.hid ?_
      refine wpList_append_bs (Own.nil _ _) (BODY8.out.keeps (KB.out.trans KC.out (T := None) (fun _ h => h) (fun _ _ h => h)) (fun _ _ _ _ _ h => h)) (by simp; omega) (Nat.le_refl _) rfl rfl rfl rfl rfl ?_
      intro v2 w2 ho2 hk2
      rw [List.nil_append] at ho2
      have kx : Keeps None _ w2 := hk2.mono (fun i hi e => by simp [Value.ownBlock] at e)
      obtain ⟨A2, cap2, rfl, -, in2⟩ := ho2.shape
      rw [HBL.out] at ho2 ⊢
      try have NN := Lib.hid (kx.blk NB.out (fun h => h))
      try have VN := Lib.hid (show ∀ b, (Value.slice A2 nn cap2).ownBlock = some b → ¬ b = nb from fun b e h => ho2.notBelow (i := b) (by rw [h]; exact NB.out.lt) e)
      try clear NB
      try have NB := NN
      try clear NN
      have V2 := Lib.hid (ho2.lower (B' := w.heap.size + 1) (Nat.le_trans BB.out.lt KC.out.size))
      have KD := Lib.hid (KC.out.trans kx (T := None) (fun _ h => h) (fun _ _ h => h))
      clear KC kx ho2 hk2 in2
      have KC := KD
      clear KD
      go_wp2
      refine MixK.on (InS.mk ((mH.out _).2 (XC.out _ (KB.out.trans KC.out (T := None) (fun _ h => h) (fun _ _ h => h))))) ?_
      refine wpMix_seg 1 (by kernel_rfl) (by decide) ?_
      simp only [List.take_succ_cons, List.take_zero, List.drop_succ_cons, List.drop_zero, Nat.reduceSub]
      repeat (go_big_quiet_step (fail))
      refine wpQuiet_nil ?_
      refine wpMix_nil ?_
      refine wpPs_cons ?_
      try simp only [List.take_succ_cons, List.take_zero, List.drop_succ_cons, List.drop_zero, Nat.reduceSub]
      refine wpMix_eff (by kernel_rfl) ?_
      have nq0 := NB.out.cellD 0 _ rfl
      have nq1 := NB.out.cellD 1 _ rfl
      have nq2 := NB.out.cellD 2 _ rfl
      have nf0 := NB.out.frozen 0
      have nf1 := NB.out.frozen 1
      have nf2 := NB.out.frozen 2
      go_wp2
      first | (refine Exists.elim (⟨_, rfl⟩ : ∃ x, ((wy.setCell ⟨nb, 0, none⟩ (.int .i64 c0)).setCell ⟨nb, 1, none⟩ (.int .i64 s3)).setCell ⟨nb, 2, none⟩ (.slice A2 nn cap2) = x) fun w3 hw3 => ?_; rw [hw3]) | (refine Exists.elim (⟨_, rfl⟩ : ∃ x, ((w2.setCell ⟨nb, 0, none⟩ (.int .i64 c0)).setCell ⟨nb, 1, none⟩ (.int .i64 s3)).setCell ⟨nb, 2, none⟩ (.slice A2 nn cap2) = x) fun w3 hw3 => ?_; rw [hw3])
      have K3 := Lib.hid (show Keeps None w w3 from by rw [← hw3]; exact KB.out.trans (((KC.out.setCell _ _ (fun h => absurd h (Nat.not_lt.2 NBL.out))).setCell _ _ (fun h => absurd h (Nat.not_lt.2 NBL.out))).setCell _ _ (fun h => absurd h (Nat.not_lt.2 NBL.out))) (fun _ h => h) (fun _ _ h => h))
      have R3 := Lib.hid (show Blk w3 w.heap.size [.int .i64 0, .int .i64 0, .slice none 0 0] 24 from by rw [← hw3]; exact (((KC.out.setCell _ _ (fun h => absurd h (Nat.not_lt.2 NBL.out))).setCell _ _ (fun h => absurd h (Nat.not_lt.2 NBL.out))).setCell _ _ (fun h => absurd h (Nat.not_lt.2 NBL.out))).blk BB.out (fun h => h))
      have N3 := Lib.hid (show Blk w3 nb [.int .i64 c0, .int .i64 s3, .slice A2 nn cap2] 24 from by rw [← hw3]; exact ((NB.out.set 0 _).set 1 _).set 2 _)
      have V3 := Lib.hid (show Own w3 (w.heap.size + 1) (.slice A2 nn cap2) bd from by rw [← hw3]; exact V2.out.keeps (S := fun i => i = nb) ((((Keeps.refl (fun i => i = nb) _).put 0 _).put 1 _).put 2 _) (fun b e h => VN.out b e h))
      clear hw3 KC NB VN V2 nq0 nq1 nq2 nf0 nf1 nf2
      refine MixK.last (by kernel_rfl) ?_
      refine wpMix_nil ?_
      refine wpPs_nil ?_
      clear mk0 mn mH
      clear XC BODY BODY8 NU2 NU4 P2 P4
      have PUT := Lib.hid (fun w h => rsput_any c0 s3 A2 nn cap2 bd w h (by omega))
      have BD3 := Lib.hid (own_bs V3.out)
      have P3 := Lib.hid (PRE.out.keeps K3.out (fun _ _ _ _ _ h => h))
      obtain ⟨pl, HPL⟩ : ∃ x, Hid (putL c0 s3 bd = x) := ⟨_, rfl⟩
      rw [HPL.out] at PUT GL2
      obtain ⟨tk, HTK⟩ : ∃ x, Hid (zs.take sz = x) := ⟨_, rfl⟩
      rw [HTK.out] at P3 GL2
      obtain ⟨sb, HSB⟩ : ∃ x, Hid (strOf tk = x) := ⟨_, rfl⟩
      clear PRE
      go_wp2
      obtain ⟨mmS, mmh⟩ : ∃ S : World → Prop, ∀ w', S w' ↔ (w'.cell? ⟨nb, 0, none⟩ = some (.int .i64 c0) ∧ w'.cell? ⟨nb, 1, none⟩ = some (.int .i64 s3) ∧ w'.cell? ⟨nb, 2, none⟩ = some (.slice A2 nn cap2) ∧ ((convert 22 9 (.slice (some ⟨bl, off, none⟩) sz cap)).run Try.prog w' = .ok (.string sb) w')) := ⟨_, fun _ => Iff.rfl⟩
      have mmk0 : ∀ x : Memb mmS, x.at_.cell? ⟨nb, 0, none⟩ = some (.int .i64 c0) := fun x => ((mmh _).1 x.is).1
      have mmk1 : ∀ x : Memb mmS, x.at_.cell? ⟨nb, 1, none⟩ = some (.int .i64 s3) := fun x => ((mmh _).1 x.is).2.1
      have mmk2 : ∀ x : Memb mmS, x.at_.cell? ⟨nb, 2, none⟩ = some (.slice A2 nn cap2) := fun x => ((mmh _).1 x.is).2.2.1
      have mmk3 : ∀ x : Memb mmS, (convert 22 9 (.slice (some ⟨bl, off, none⟩) sz cap)).run Try.prog x.at_ = .ok (.string sb) x.at_ := fun x => ((mmh _).1 x.is).2.2.2
      have mmn : Nonempty (Memb mmS) := ⟨⟨(w3).drew, (mmh _).2 ⟨N3.out.cellD 0 _ rfl, N3.out.cellD 1 _ rfl, N3.out.cellD 2 _ rfl, HSB.out ▸ run_str P3.out.drew⟩⟩⟩
      have mmH := Lib.hid mmh
      clear mmh
      refine wp_region_mix2 [1] (InS mmS) (by kernel_rfl) (by kernel_rfl) (InS.mk ((mmH.out _).2 ⟨N3.out.cellD 0 _ rfl, N3.out.cellD 1 _ rfl, N3.out.cellD 2 _ rfl, HSB.out ▸ run_str P3.out.drew⟩)) ?_
      refine wpMix2_seg 1 (InS mmS) (by kernel_rfl) (by decide) (cl_base [] rfl (by kernel_rfl)) ?_
      simp only [List.take_succ_cons, List.take_zero, List.drop_succ_cons, List.drop_zero]
      repeat (first | go_big_quiet_step (fail) | (go_big_quiet_want; first | refine quiet_conv mmk3 rfl rfl rfl (by simp only [Act.put, List.setIfInBounds_toArray, List.set_cons_succ, List.set_cons_zero]; rfl) ?_; go_big_quiet_on))
      refine wpQuiet_nil ?_
      refine wpMix2_eff (by kernel_rfl) ?_
      go_wp2_with fail
      refine (PUT.out _ BD3.out.drew).mono ?_
      rintro e w5 ⟨v5, rfl, o5, k5⟩
      obtain ⟨A5, cap5, rfl, bs5, -⟩ := o5.shape
      have K5 := Lib.hid (K3.out.drew.trans k5 (T := None) (fun _ h => h) (fun _ _ h => h))
      have R5 := Lib.hid (k5.blk R3.out.drew (fun h => h))
      have N5 := Lib.hid (k5.blk N3.out.drew (fun h => h))
      have V5 := Lib.hid (V3.out.drew.keeps k5 (fun _ _ h => h))
      have P5 := Lib.hid (P3.out.drew.keeps k5 (fun _ _ _ _ _ h => h))
      have BS5 := Lib.hid bs5
      have QZ := strOf_beq bs5.byte P3.out.byte
      obtain ⟨sa, HSA⟩ : ∃ x, Hid (strOf pl = x) := ⟨_, rfl⟩
      obtain ⟨pb, HPB⟩ : ∃ b, Hid (decide (pl = tk) = b) := ⟨_, rfl⟩
      rw [HSA.out, HSB.out, HPB.out] at QZ
      clear o5 k5 bs5 K3 R3 V3 PUT BD3
      go_wp2
      obtain ⟨mmL2S, mmL2h⟩ : ∃ S : World → Prop, ∀ w', S w' ↔ (((convert 22 9 (.slice A5 pl.length cap5)).run Try.prog w' = .ok (.string sa) w')) := ⟨_, fun _ => Iff.rfl⟩
      have mmL2k0 : ∀ x : Memb mmL2S, (convert 22 9 (.slice A5 pl.length cap5)).run Try.prog x.at_ = .ok (.string sa) x.at_ := fun x => ((mmL2h _).1 x.is)
      have mmL2n : Nonempty (Memb mmL2S) := ⟨⟨_, (mmL2h _).2 (HSA.out ▸ run_str BS5.out)⟩⟩
      have mmL2H := Lib.hid mmL2h
      clear mmL2h
      refine MixK2.late (D := InS mmL2S) (x := 2) (by kernel_rfl) (cls_cons (InS.mk ((mmL2H.out _).2 (HSA.out ▸ run_str BS5.out))) (cls_base (InS.mk ((mmH.out _).2 (⟨N5.out.cellD 0 _ rfl, N5.out.cellD 1 _ rfl, N5.out.cellD 2 _ rfl, HSB.out ▸ run_str P5.out⟩))))) ?_
      refine wpMix2_seg 1 (InS mmL2S) (by kernel_rfl) (by decide) (cl_one rfl) ?_
      simp only [List.take_succ_cons, List.take_zero, List.drop_succ_cons, List.drop_zero]
      repeat (first | go_big_quiet_step (fail) | (go_big_quiet_want; first | refine quiet_conv mmk3 rfl rfl rfl (by simp only [Act.put, List.setIfInBounds_toArray, List.set_cons_succ, List.set_cons_zero]; rfl) ?_; go_big_quiet_on | refine quiet_conv mmL2k0 rfl rfl rfl (by simp only [Act.put, List.setIfInBounds_toArray, List.set_cons_succ, List.set_cons_zero]; rfl) ?_; go_big_quiet_on))
      refine wpQuiet_nil ?_
      refine wpMix2_seg 5 (InS mmS) (by kernel_rfl) (by decide) (cl_base [2] rfl (by kernel_rfl)) ?_
      simp only [List.take_succ_cons, List.take_zero, List.drop_succ_cons, List.drop_zero]
      repeat (first | go_big_quiet_step (fail) | (go_big_quiet_want; first | refine quiet_conv mmk3 rfl rfl rfl (by simp only [Act.put, List.setIfInBounds_toArray, List.set_cons_succ, List.set_cons_zero]; rfl) ?_; go_big_quiet_on | refine quiet_conv mmL2k0 rfl rfl rfl (by simp only [Act.put, List.setIfInBounds_toArray, List.set_cons_succ, List.set_cons_zero]; rfl) ?_; go_big_quiet_on))
      refine wpQuiet_nil ?_
      refine wpMix2_nil ?_
      clear mmk0 mmk1 mmk2 mmk3 mmn mmH mmL2k0 mmL2n mmL2H
      clear BS5 P5 P3
      cases pb with
      | true =>
        have hpb : pl = tk := of_decide_eq_true HPB.out
        have GS : Hid (getL zs = some ((c0 : Int), (s3 : Int), bd, (sz : Int))) := by
          show getL zs = _
          rw [GL2.out]; exact if_pos hpb
        have rq0 := N5.out.cellD 0 _ rfl
        have rq1 := N5.out.cellD 1 _ rfl
        have rq2 := N5.out.cellD 2 _ rfl
        have qq0 := R5.out.cellD 0 _ rfl
        have qq1 := R5.out.cellD 1 _ rfl
        have qq2 := R5.out.cellD 2 _ rfl
        have qf0 := R5.out.frozen 0
        have qf1 := R5.out.frozen 1
        have qf2 := R5.out.frozen 2
        clear hpb HPB GL2 HSA HSB HPL HTK
        go_wp2
        refine bodyPost_ret (get_res _ ((((Blk.set (R5.out) 0 _)).set 1 _).set 2 _) rfl rfl rfl) rfl ?_
        exact ⟨c0, s3, _, bd, sz, true, rfl, ((V5.out.keeps (S := fun i => i = w.heap.size) ((((Keeps.refl (fun i => i = w.heap.size) w5).put 0 _).put 1 _).put 2 _) (fun b e h => V5.out.notBelow (i := b) (by omega) e)).lower (Nat.le_succ _)), ((K5.out.setCell _ _ (fun h => absurd h (Nat.lt_irrefl _))).setCell _ _ (fun h => absurd h (Nat.lt_irrefl _))).setCell _ _ (fun h => absurd h (Nat.lt_irrefl _)), .inl ⟨rfl, GS.out⟩⟩
      | false =>
        have hpb : ¬ pl = tk := of_decide_eq_false HPB.out
        have GN : Hid (getL zs = none) := by
          show getL zs = none
          rw [GL2.out]; exact if_neg hpb
        clear GL2 V5 N5 hpb HPB HSA HSB HPL HTK
        have qq0 := Blk.cellD (R5.out) 0 _ rfl
        have qq1 := Blk.cellD (R5.out) 1 _ rfl
        have qq2 := Blk.cellD (R5.out) 2 _ rfl
        have qf0 := Blk.frozen (R5.out) 0
        have qf1 := Blk.frozen (R5.out) 1
        have qf2 := Blk.frozen (R5.out) 2
        go_wp2
        refine bodyPost_ret (get_res _ ((((Blk.set (R5.out) 0 _)).set 1 _).set 2 _) rfl rfl rfl) rfl ?_
        exact ⟨0, 0, _, [], 0, false, rfl, Own.nil _ _, ((Keeps.setCell (K5.out) _ _ (fun h => absurd h (Nat.lt_irrefl _))).setCell _ _ (fun h => absurd h (Nat.lt_irrefl _))).setCell _ _ (fun h => absurd h (Nat.lt_irrefl _)), .inr ⟨rfl, GN.out, rfl, rfl, rfl, rfl⟩⟩
  ·
    refine wpPs_cons ?_
    try simp only [List.take_succ_cons, List.take_zero, List.drop_succ_cons, List.drop_zero, Nat.reduceSub]
    refine wpMix_eff (by kernel_rfl) ?_
    go_wp2
    first | (refine Exists.elim (⟨_, rfl⟩ : ∃ x, w2.alloc (.cells #[.int .i64 0, .int .i64 0, .slice none 0 0] 24) = x) fun wy hwy => ?_; refine Exists.elim (⟨_, rfl⟩ : ∃ x, w2.heap.size = x) fun nb hnb => ?_; rw [hwy, hnb]) | (refine Exists.elim (⟨_, rfl⟩ : ∃ x, (wb.alloc (.cells #[.int .i64 0, .int .i64 0, .slice none 0 0] 24)).drew = x) fun wy hwy => ?_; refine Exists.elim (⟨_, rfl⟩ : ∃ x, wb.heap.size = x) fun nb hnb => ?_; rw [hwy, hnb]) | (refine Exists.elim (⟨_, rfl⟩ : ∃ x, wb.drew.alloc (.cells #[.int .i64 0, .int .i64 0, .slice none 0 0] 24) = x) fun wy hwy => ?_; refine Exists.elim (⟨_, rfl⟩ : ∃ x, wb.heap.size = x) fun nb hnb => ?_; rw [hwy, hnb])
    have NB : Hid (Blk wy nb [.int .i64 0, .int .i64 0, .slice none 0 0] 24) := by rw [← hwy, ← hnb]; first | exact Blk.new _ [_, _, _] _ | exact (Blk.new _ [_, _, _] _).drew
    have NBL : Hid (wb.heap.size ≤ nb) := by rw [← hnb]; exact KC.out.size
    have KD : Hid (Keeps None wb wy) := by rw [← hwy]; first | exact KC.out.alloc _ | exact ((Keeps.refl None wb).alloc _).drew
    try have VN := Lib.hid (show ∀ b, (Value.slice A2 nn cap2).ownBlock = some b → ¬ b = nb from fun b e h => by have h1 := V2.out.lt2 e; have h2 : w2.heap.size = nb := hnb; omega)
    try have VV : Hid (Own wy (w.heap.size + 1) (.slice A2 nn cap2) bd) := by rw [← hwy]; exact V2.out.alloc _
    try clear V2
    try have V2 := VV
    try clear VV
    clear KC hwy hnb
    have KC := KD
    clear KD
    refine MixK.on (InS.mk ((mH.out _).2 (XC.out _ (KB.out.trans KC.out (T := None) (fun _ h => h) (fun _ _ h => h))))) ?_
    refine wpMix_nil ?_
    refine wpPs_nil ?_
    refine wpT_node1 (us := [(0, 14), (15, 1)]) [(4, 3)] [(0, 4), (7, 7), (15, 1)] (by kernel_rfl) ?_
    ·
      refine wpPs_cons ?_
      try simp only [List.take_succ_cons, List.take_zero, List.drop_succ_cons, List.drop_zero, Nat.reduceSub]
      refine wpMix_seg 2 (by kernel_rfl) (by decide) ?_
      simp only [List.take_succ_cons, List.take_zero, List.drop_succ_cons, List.drop_zero, Nat.reduceSub]
      repeat (go_big_quiet_step (fail))
      refine wpQuiet_nil ?_
      refine wpMix_eff (by kernel_rfl) ?_
      go_wp2_with fail
      refine (NU4.out _ (P4.out.keeps (KB.out.trans KC.out (T := None) (fun _ h => h) (fun _ _ h => h)) (fun _ _ _ _ _ h => h))).mono ?_
      rintro e w' ⟨rfl, rfl⟩
      go_wp2
      refine MixK.on (InS.mk ((mH.out _).2 (XC.out _ (KB.out.trans KC.out (T := None) (fun _ h => h) (fun _ _ h => h))))) ?_
      refine wpMix_nil ?_
      refine wpPs_nil ?_
      refine wpT_leaf (ps := [(0, 4), (7, 7), (15, 1)]) (by kernel_rfl) ?_
      refine wpPs_cons ?_
      try simp only [List.take_succ_cons, List.take_zero, List.drop_succ_cons, List.drop_zero, Nat.reduceSub]
      refine wpMix_seg 4 (by kernel_rfl) (by decide) ?_
      simp only [List.take_succ_cons, List.take_zero, List.drop_succ_cons, List.drop_zero, Nat.reduceSub]
      repeat (go_big_quiet_step (fail))
      refine wpQuiet_nil ?_
      refine wpMix_nil ?_
      refine wpPs_cons ?_
      try simp only [List.take_succ_cons, List.take_zero, List.drop_succ_cons, List.drop_zero, Nat.reduceSub]
      refine wpMix_seg 5 (by kernel_rfl) (by decide) ?_
      simp only [List.take_succ_cons, List.take_zero, List.drop_succ_cons, List.drop_zero, Nat.reduceSub]
      repeat (go_big_quiet_step (fail))
      refine wpQuiet_nil ?_
      refine wpMix_eff (by kernel_rfl) ?_
      go_wp2_with (at_builtin; refine Hid.out ?_)
      refine Lib.hid ?_
      refine wpList_append_bs (Own.nil _ _) (BODY8.out.keeps (KB.out.trans KC.out (T := None) (fun _ h => h) (fun _ _ h => h)) (fun _ _ _ _ _ h => h)) (by simp; omega) (Nat.le_refl _) rfl rfl rfl rfl rfl ?_
      intro v2 w2 ho2 hk2
      rw [List.nil_append] at ho2
      have kx : Keeps None _ w2 := hk2.mono (fun i hi e => by simp [Value.ownBlock] at e)
      obtain ⟨A2, cap2, rfl, -, in2⟩ := ho2.shape
      rw [HBL.out] at ho2 ⊢
      try have NN := Lib.hid (kx.blk NB.out (fun h => h))
      try have VN := Lib.hid (show ∀ b, (Value.slice A2 nn cap2).ownBlock = some b → ¬ b = nb from fun b e h => ho2.notBelow (i := b) (by rw [h]; exact NB.out.lt) e)
      try clear NB
      try have NB := NN
      try clear NN
      have V2 := Lib.hid (ho2.lower (B' := w.heap.size + 1) (Nat.le_trans BB.out.lt KC.out.size))
      have KD := Lib.hid (KC.out.trans kx (T := None) (fun _ h => h) (fun _ _ h => h))
      clear KC kx ho2 hk2 in2
      have KC := KD
      clear KD
      go_wp2
      refine MixK.on (InS.mk ((mH.out _).2 (XC.out _ (KB.out.trans KC.out (T := None) (fun _ h => h) (fun _ _ h => h))))) ?_
      refine wpMix_seg 1 (by kernel_rfl) (by decide) ?_
      simp only [List.take_succ_cons, List.take_zero, List.drop_succ_cons, List.drop_zero, Nat.reduceSub]
      repeat (go_big_quiet_step (fail))
      refine wpQuiet_nil ?_
      refine wpMix_nil ?_
      refine wpPs_cons ?_
      try simp only [List.take_succ_cons, List.take_zero, List.drop_succ_cons, List.drop_zero, Nat.reduceSub]
      refine wpMix_eff (by kernel_rfl) ?_
      have nq0 := NB.out.cellD 0 _ rfl
      have nq1 := NB.out.cellD 1 _ rfl
      have nq2 := NB.out.cellD 2 _ rfl
      have nf0 := NB.out.frozen 0
      have nf1 := NB.out.frozen 1
      have nf2 := NB.out.frozen 2
      go_wp2
      first | (refine Exists.elim (⟨_, rfl⟩ : ∃ x, ((wy.setCell ⟨nb, 0, none⟩ (.int .i64 c0)).setCell ⟨nb, 1, none⟩ (.int .i64 s3)).setCell ⟨nb, 2, none⟩ (.slice A2 nn cap2) = x) fun w3 hw3 => ?_; rw [hw3]) | (refine Exists.elim (⟨_, rfl⟩ : ∃ x, ((w2.setCell ⟨nb, 0, none⟩ (.int .i64 c0)).setCell ⟨nb, 1, none⟩ (.int .i64 s3)).setCell ⟨nb, 2, none⟩ (.slice A2 nn cap2) = x) fun w3 hw3 => ?_; rw [hw3])
      have K3 := Lib.hid (show Keeps None w w3 from by rw [← hw3]; exact KB.out.trans (((KC.out.setCell _ _ (fun h => absurd h (Nat.not_lt.2 NBL.out))).setCell _ _ (fun h => absurd h (Nat.not_lt.2 NBL.out))).setCell _ _ (fun h => absurd h (Nat.not_lt.2 NBL.out))) (fun _ h => h) (fun _ _ h => h))
      have R3 := Lib.hid (show Blk w3 w.heap.size [.int .i64 0, .int .i64 0, .slice none 0 0] 24 from by rw [← hw3]; exact (((KC.out.setCell _ _ (fun h => absurd h (Nat.not_lt.2 NBL.out))).setCell _ _ (fun h => absurd h (Nat.not_lt.2 NBL.out))).setCell _ _ (fun h => absurd h (Nat.not_lt.2 NBL.out))).blk BB.out (fun h => h))
      have N3 := Lib.hid (show Blk w3 nb [.int .i64 c0, .int .i64 s3, .slice A2 nn cap2] 24 from by rw [← hw3]; exact ((NB.out.set 0 _).set 1 _).set 2 _)
      have V3 := Lib.hid (show Own w3 (w.heap.size + 1) (.slice A2 nn cap2) bd from by rw [← hw3]; exact V2.out.keeps (S := fun i => i = nb) ((((Keeps.refl (fun i => i = nb) _).put 0 _).put 1 _).put 2 _) (fun b e h => VN.out b e h))
      clear hw3 KC NB VN V2 nq0 nq1 nq2 nf0 nf1 nf2
      refine MixK.last (by kernel_rfl) ?_
      refine wpMix_nil ?_
      refine wpPs_nil ?_
      clear mk0 mn mH
      clear XC BODY BODY8 NU2 NU4 P2 P4
      have PUT := Lib.hid (fun w h => rsput_any c0 s3 A2 nn cap2 bd w h (by omega))
      have BD3 := Lib.hid (own_bs V3.out)
      have P3 := Lib.hid (PRE.out.keeps K3.out (fun _ _ _ _ _ h => h))
      obtain ⟨pl, HPL⟩ : ∃ x, Hid (putL c0 s3 bd = x) := ⟨_, rfl⟩
      rw [HPL.out] at PUT GL2
      obtain ⟨tk, HTK⟩ : ∃ x, Hid (zs.take sz = x) := ⟨_, rfl⟩
      rw [HTK.out] at P3 GL2
      obtain ⟨sb, HSB⟩ : ∃ x, Hid (strOf tk = x) := ⟨_, rfl⟩
      clear PRE
      go_wp2
      obtain ⟨mmS, mmh⟩ : ∃ S : World → Prop, ∀ w', S w' ↔ (w'.cell? ⟨nb, 0, none⟩ = some (.int .i64 c0) ∧ w'.cell? ⟨nb, 1, none⟩ = some (.int .i64 s3) ∧ w'.cell? ⟨nb, 2, none⟩ = some (.slice A2 nn cap2) ∧ ((convert 22 9 (.slice (some ⟨bl, off, none⟩) sz cap)).run Try.prog w' = .ok (.string sb) w')) := ⟨_, fun _ => Iff.rfl⟩
      have mmk0 : ∀ x : Memb mmS, x.at_.cell? ⟨nb, 0, none⟩ = some (.int .i64 c0) := fun x => ((mmh _).1 x.is).1
      have mmk1 : ∀ x : Memb mmS, x.at_.cell? ⟨nb, 1, none⟩ = some (.int .i64 s3) := fun x => ((mmh _).1 x.is).2.1
      have mmk2 : ∀ x : Memb mmS, x.at_.cell? ⟨nb, 2, none⟩ = some (.slice A2 nn cap2) := fun x => ((mmh _).1 x.is).2.2.1
      have mmk3 : ∀ x : Memb mmS, (convert 22 9 (.slice (some ⟨bl, off, none⟩) sz cap)).run Try.prog x.at_ = .ok (.string sb) x.at_ := fun x => ((mmh _).1 x.is).2.2.2
      have mmn : Nonempty (Memb mmS) := ⟨⟨(w3).drew, (mmh _).2 ⟨N3.out.cellD 0 _ rfl, N3.out.cellD 1 _ rfl, N3.out.cellD 2 _ rfl, HSB.out ▸ run_str P3.out.drew⟩⟩⟩
      have mmH := Lib.hid mmh
      clear mmh
      refine wp_region_mix2 [1] (InS mmS) (by kernel_rfl) (by kernel_rfl) (InS.mk ((mmH.out _).2 ⟨N3.out.cellD 0 _ rfl, N3.out.cellD 1 _ rfl, N3.out.cellD 2 _ rfl, HSB.out ▸ run_str P3.out.drew⟩)) ?_
      refine wpMix2_seg 1 (InS mmS) (by kernel_rfl) (by decide) (cl_base [] rfl (by kernel_rfl)) ?_
      simp only [List.take_succ_cons, List.take_zero, List.drop_succ_cons, List.drop_zero]
      repeat (first | go_big_quiet_step (fail) | (go_big_quiet_want; first | refine quiet_conv mmk3 rfl rfl rfl (by simp only [Act.put, List.setIfInBounds_toArray, List.set_cons_succ, List.set_cons_zero]; rfl) ?_; go_big_quiet_on))
      refine wpQuiet_nil ?_
      refine wpMix2_eff (by kernel_rfl) ?_
      go_wp2_with fail
      refine (PUT.out _ BD3.out.drew).mono ?_
      rintro e w5 ⟨v5, rfl, o5, k5⟩
      obtain ⟨A5, cap5, rfl, bs5, -⟩ := o5.shape
      have K5 := Lib.hid (K3.out.drew.trans k5 (T := None) (fun _ h => h) (fun _ _ h => h))
      have R5 := Lib.hid (k5.blk R3.out.drew (fun h => h))
      have N5 := Lib.hid (k5.blk N3.out.drew (fun h => h))
      have V5 := Lib.hid (V3.out.drew.keeps k5 (fun _ _ h => h))
      have P5 := Lib.hid (P3.out.drew.keeps k5 (fun _ _ _ _ _ h => h))
      have BS5 := Lib.hid bs5
      have QZ := strOf_beq bs5.byte P3.out.byte
      obtain ⟨sa, HSA⟩ : ∃ x, Hid (strOf pl = x) := ⟨_, rfl⟩
      obtain ⟨pb, HPB⟩ : ∃ b, Hid (decide (pl = tk) = b) := ⟨_, rfl⟩
      rw [HSA.out, HSB.out, HPB.out] at QZ
      clear o5 k5 bs5 K3 R3 V3 PUT BD3
      go_wp2
      obtain ⟨mmL2S, mmL2h⟩ : ∃ S : World → Prop, ∀ w', S w' ↔ (((convert 22 9 (.slice A5 pl.length cap5)).run Try.prog w' = .ok (.string sa) w')) := ⟨_, fun _ => Iff.rfl⟩
      have mmL2k0 : ∀ x : Memb mmL2S, (convert 22 9 (.slice A5 pl.length cap5)).run Try.prog x.at_ = .ok (.string sa) x.at_ := fun x => ((mmL2h _).1 x.is)
      have mmL2n : Nonempty (Memb mmL2S) := ⟨⟨_, (mmL2h _).2 (HSA.out ▸ run_str BS5.out)⟩⟩
      have mmL2H := Lib.hid mmL2h
      clear mmL2h
      refine MixK2.late (D := InS mmL2S) (x := 2) (by kernel_rfl) (cls_cons (InS.mk ((mmL2H.out _).2 (HSA.out ▸ run_str BS5.out))) (cls_base (InS.mk ((mmH.out _).2 (⟨N5.out.cellD 0 _ rfl, N5.out.cellD 1 _ rfl, N5.out.cellD 2 _ rfl, HSB.out ▸ run_str P5.out⟩))))) ?_
      refine wpMix2_seg 1 (InS mmL2S) (by kernel_rfl) (by decide) (cl_one rfl) ?_
      simp only [List.take_succ_cons, List.take_zero, List.drop_succ_cons, List.drop_zero]
      repeat (first | go_big_quiet_step (fail) | (go_big_quiet_want; first | refine quiet_conv mmk3 rfl rfl rfl (by simp only [Act.put, List.setIfInBounds_toArray, List.set_cons_succ, List.set_cons_zero]; rfl) ?_; go_big_quiet_on | refine quiet_conv mmL2k0 rfl rfl rfl (by simp only [Act.put, List.setIfInBounds_toArray, List.set_cons_succ, List.set_cons_zero]; rfl) ?_; go_big_quiet_on))
      refine wpQuiet_nil ?_
      refine wpMix2_seg 5 (InS mmS) (by kernel_rfl) (by decide) (cl_base [2] rfl (by kernel_rfl)) ?_
      simp only [List.take_succ_cons, List.take_zero, List.drop_succ_cons, List.drop_zero]
      repeat (first | go_big_quiet_step (fail) | (go_big_quiet_want; first | refine quiet_conv mmk3 rfl rfl rfl (by simp only [Act.put, List.setIfInBounds_toArray, List.set_cons_succ, List.set_cons_zero]; rfl) ?_; go_big_quiet_on | refine quiet_conv mmL2k0 rfl rfl rfl (by simp only [Act.put, List.setIfInBounds_toArray, List.set_cons_succ, List.set_cons_zero]; rfl) ?_; go_big_quiet_on))
      refine wpQuiet_nil ?_
      refine wpMix2_nil ?_
      clear mmk0 mmk1 mmk2 mmk3 mmn mmH mmL2k0 mmL2n mmL2H
      clear BS5 P5 P3
      cases pb with
      | true =>
        have hpb : pl = tk := of_decide_eq_true HPB.out
        have GS : Hid (getL zs = some ((c0 : Int), (s3 : Int), bd, (sz : Int))) := by
          show getL zs = _
          rw [GL2.out]; exact if_pos hpb
        have rq0 := N5.out.cellD 0 _ rfl
        have rq1 := N5.out.cellD 1 _ rfl
        have rq2 := N5.out.cellD 2 _ rfl
        have qq0 := R5.out.cellD 0 _ rfl
        have qq1 := R5.out.cellD 1 _ rfl
        have qq2 := R5.out.cellD 2 _ rfl
        have qf0 := R5.out.frozen 0
        have qf1 := R5.out.frozen 1
        have qf2 := R5.out.frozen 2
        clear hpb HPB GL2 HSA HSB HPL HTK
        go_wp2
        refine bodyPost_ret (get_res _ ((((Blk.set (R5.out) 0 _)).set 1 _).set 2 _) rfl rfl rfl) rfl ?_
        exact ⟨c0, s3, _, bd, sz, true, rfl, ((V5.out.keeps (S := fun i => i = w.heap.size) ((((Keeps.refl (fun i => i = w.heap.size) w5).put 0 _).put 1 _).put 2 _) (fun b e h => V5.out.notBelow (i := b) (by omega) e)).lower (Nat.le_succ _)), ((K5.out.setCell _ _ (fun h => absurd h (Nat.lt_irrefl _))).setCell _ _ (fun h => absurd h (Nat.lt_irrefl _))).setCell _ _ (fun h => absurd h (Nat.lt_irrefl _)), .inl ⟨rfl, GS.out⟩⟩
      | false =>
        have hpb : ¬ pl = tk := of_decide_eq_false HPB.out
        have GN : Hid (getL zs = none) := by
          show getL zs = none
          rw [GL2.out]; exact if_neg hpb
        clear GL2 V5 N5 hpb HPB HSA HSB HPL HTK
        have qq0 := Blk.cellD (R5.out) 0 _ rfl
        have qq1 := Blk.cellD (R5.out) 1 _ rfl
        have qq2 := Blk.cellD (R5.out) 2 _ rfl
        have qf0 := Blk.frozen (R5.out) 0
        have qf1 := Blk.frozen (R5.out) 1
        have qf2 := Blk.frozen (R5.out) 2
        go_wp2
        refine bodyPost_ret (get_res _ ((((Blk.set (R5.out) 0 _)).set 1 _).set 2 _) rfl rfl rfl) rfl ?_
        exact ⟨0, 0, _, [], 0, false, rfl, Own.nil _ _, ((Keeps.setCell (K5.out) _ _ (fun h => absurd h (Nat.lt_irrefl _))).setCell _ _ (fun h => absurd h (Nat.lt_irrefl _))).setCell _ _ (fun h => absurd h (Nat.lt_irrefl _)), .inr ⟨rfl, GN.out, rfl, rfl, rfl, rfl⟩⟩
end Go.Proofs.Ytdgjopejocfbeaa
