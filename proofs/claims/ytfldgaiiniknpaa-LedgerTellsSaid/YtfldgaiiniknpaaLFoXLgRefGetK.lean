
/- The walk of the reference's GetCheck. -/
import Derived.Test.YtfldgaiiniknpaaLFoXLgRefPutK
namespace Go.Proofs.Ytfldgaiiniknpaa
open Go.RowKit

/-- What the reference reads: two numbers may be wrong in another way. -/
def chkR (b : List Int) (O D : Int) : Chk := ⟨b.getD 0 0, b.getD 1 0, O, D, (b.drop 24).take 8, b.drop 32⟩
theorem chkL_bad {c : Chk} (h : c.off < 0 ∨ 2147483647 < c.off ∨ c.dn < 0 ∨ 2147483647 < c.dn) : chkL c = [] := if_neg (fun hh => by obtain ⟨-, ⟨f1, f2, f3, f4⟩, -⟩ := hh; omega)
theorem chkR_get {b : List Int} {O D : Int} (h1 : (part8 b 8 ≤ 2147483647 ∧ O = part8 b 8) ∨ (2147483647 < part8 b 8 ∧ (O < 0 ∨ 2147483647 < O))) (h2 : (part8 b 16 ≤ 2147483647 ∧ D = part8 b 16) ∨ (2147483647 < part8 b 16 ∧ (D < 0 ∨ 2147483647 < D))) (hl : b.length = 232) : getChk b = if chkL (chkR b O D) = b then (chkR b O D, true) else (chk0, false) := by
  have bad : (2147483647 < part8 b 8 ∨ 2147483647 < part8 b 16) → chkL (chkR b O D) = [] → getChk b = if chkL (chkR b O D) = b then (chkR b O D, true) else (chk0, false) := by
    intro hb e1
    have e2 : chkL (chkP b) = [] := chkL_bad (by
      rcases hb with hb | hb
      · have e : (chkP b).off = -1 := if_neg (by omega)
        omega
      · have e : (chkP b).dn = -1 := if_neg (by omega)
        omega)
    unfold getChk
    rw [e1, e2, if_neg (by rintro ⟨-, h⟩; rw [← h] at hl; cases hl), if_neg (by intro h; rw [← h] at hl; cases hl)]
  rcases h1 with ⟨h1, h3⟩ | ⟨h1, h3⟩
  · rcases h2 with ⟨h2, h4⟩ | ⟨h2, h4⟩
    · have e : chkR b O D = chkP b := by unfold chkR chkP smallN; rw [if_pos h1, if_pos h2, h3, h4]
      rw [e]
      unfold getChk
      simp [hl]
    · exact bad (.inr h2) (chkL_bad (by show O < 0 ∨ 2147483647 < O ∨ D < 0 ∨ 2147483647 < D; omega))
  · exact bad (.inl h1) (chkL_bad (by show O < 0 ∨ 2147483647 < O ∨ D < 0 ∨ 2147483647 < D; omega))
theorem Chk.cs_set (c : Chk) (A : Option Addr) (n cap k : Nat) (hk : k < c.id.length) (z : Int) : (c.cs A n cap).set (4 + k) (.int .u8 z) = ({ c with id := c.id.set k z } : Chk).cs A n cap := by
  rw [Nat.add_comm]
  simp [Chk.cs, List.map_set, List.set_append_left, hk]
theorem Chk.cs_idv (c : Chk) (A : Option Addr) (n cap : Nat) (h : c.id.length = 8) (k : Nat) (hk : k < 8) : (c.cs A n cap)[4 + k]? = some (.int .u8 (c.id.getD k 0)) := by
  rw [Nat.add_comm]
  show (c.id.map (Value.int .u8) ++ [.slice A n cap])[k]? = _
  rw [List.getElem?_append_left (by rw [List.length_map, h]; exact hk)]
  exact map_getD 0 (by omega)
theorem run_load_chk {w : World} {g : Nat} {c : Chk} {A : Option Addr} {n cap : Nat} {T : TypeId} (h : Blk w g (c.cs A n cap) T) (hl : (c.cs A n cap).length = 13) : (Instr.loadAt 29 (.pointer (some ⟨g, 0, none⟩))).run Try.prog w = .ok (.agg (c.cs A n cap).toArray) w :=
  run_loadAt_mid w g 0 29 (c.cs A n cap) _ (blk_range h (fun j v hv => by rw [Nat.zero_add]; exact hv)) Try.underlying29 rfl (by rw [hl]; exact chk_size)
theorem getD_take8 {zs : List Int} {n k : Nat} (hk : k < n) : (zs.take n).getD k 0 = zs.getD k 0 := by
  rw [List.getD_eq_getElem?_getD, List.getElem?_take_of_lt hk, ← List.getD_eq_getElem?_getD]
set_option maxRecDepth 100000 in
set_option maxHeartbeats 6400000 in
theorem rggetk_any (A : Option Addr) (n cap : Nat) (zs : List Int) (w : World) (h : Bs w A n cap zs) : Calls Try.prog 11 #[.slice A n cap] w (GotChk w zs) := by
  have hle := h.le
  have hmx := h.max
  by_cases hn : n = 232
  case neg =>
    have d1 : ((n : Int) != 232) = true := by simp; omega
    have GN : Hid (getChk zs = (chk0, false)) := if_neg (fun hh => hn (by rw [← h.len, hh.1]))
    clear h
    go_enter Try.func11, Try.ntmps11
    have NW := Lib.hid (Blk.new w (chk0.cs none 0 0) 29)
    have KW : Hid (Keeps None w (w.alloc (.cells (chk0.cs none 0 0).toArray 29))) := (Keeps.refl None w).alloc _
    rw [← chk_zero] at NW KW
    go_wp2_with (refine wpList_store_blk (b := w.heap.size) (o := 0) (ds := chk0.cs none 0 0) NW.out (by decide) (Chk.cs_one _ _ _ _) rfl rfl rfl (by rw [← chk_zero]; rfl) chk_size ?_)
    intro w' hb hk
    rw [splice_all rfl] at hb
    have HB := Lib.hid hb
    have HK := Lib.hid (KW.out.trans hk (T := None) (fun _ h => h) (fun b hb e => absurd e (by omega)))
    clear hb hk NW KW
    go_wp2
    refine bodyPost_ret (cell_res rfl _ HB.out Try.underlying29 rfl chk_size rfl rfl) rfl ?_
    exact ⟨none, 0, 0, by rw [GN.out]; rfl, by rw [GN.out]; exact ChkV.nil _ _, HK.out⟩
  subst hn
  have HZ := Lib.hid h
  have HL := Lib.hid h.len
  obtain ⟨gb, off, rfl, hgb, hcel⟩ := h.at_ (by decide)
  have z0 := hcel 0 (by decide)
  have z1 := hcel 1 (by decide)
  have a0 := h.byte (zs.getD 0 0) (getD_mem 0 (by rw [h.len]; decide))
  have a1 := h.byte (zs.getD 1 0) (getD_mem 0 (by rw [h.len]; decide))
  obtain ⟨c0, hc0⟩ : ∃ c : Nat, zs.getD 0 0 = c := ⟨(zs.getD 0 0).toNat, by omega⟩
  obtain ⟨c1, hc1⟩ : ∃ c : Nat, zs.getD 1 0 = c := ⟨(zs.getD 1 0).toNat, by omega⟩
  have HC0 := Lib.hid hc0
  have HC1 := Lib.hid hc1
  rw [hc0] at z0 a0
  rw [hc1] at z1 a1
  have V1 := Lib.hid (fun w h => rsnumber_any (some ⟨gb, off + 8, none⟩) (16 - 8) (cap - 8) ((zs.drop 8).take 8) w h (by decide))
  have V2 := Lib.hid (fun w h => rsnumber_any (some ⟨gb, off + 16, none⟩) (24 - 16) (cap - 16) ((zs.drop 16).take 8) w h (by decide))
  rw [show numN ((zs.drop 8).take 8) = part8 zs 8 from rfl] at V1
  rw [show numN ((zs.drop 16).take 8) = part8 zs 16 from rfl] at V2
  have L200 : Hid ((zs.drop 32).length = 200) := by show _ = _; rw [List.length_drop, HL.out]
  have P1 := part8_lt h.byte 8
  have P2 := part8_lt h.byte 16
  obtain ⟨O, hO⟩ : ∃ x, wrap64 (part8 zs 8 : Int) = x := ⟨_, rfl⟩
  obtain ⟨D, hD⟩ : ∃ x, wrap64 (part8 zs 16 : Int) = x := ⟨_, rfl⟩
  have HD : Hid (((zs.drop 24).take 8).length = 8) := by show _ = _; rw [List.length_take, List.length_drop, HL.out]; rfl
  have GC : Hid (getChk zs = if chkL (chkR zs O D) = zs then (chkR zs O D, true) else (chk0, false)) := chkR_get (wrap_len hO P1) (wrap_len hD P2) HL.out
  have COK : Hid (chkR zs O D).ok := ⟨HD.out, fun z hz => HZ.out.byte z (List.mem_of_mem_drop (List.mem_of_mem_take hz)), fun z hz => HZ.out.byte z (List.mem_of_mem_drop hz)⟩
  clear h hcel hc0 hc1
  go_enter Try.func11, Try.ntmps11
  go_wp2
  obtain ⟨wb, hwb⟩ : ∃ x, w.alloc (.cells #[.int .i64 0, .int .i64 0, .int .i64 0, .int .i64 0, .int .u8 0, .int .u8 0, .int .u8 0, .int .u8 0, .int .u8 0, .int .u8 0, .int .u8 0, .int .u8 0, .slice none 0 0] 29) = x := ⟨_, rfl⟩
  have RB : Hid (Blk wb w.heap.size (chk0.cs none 0 0) 29) := by rw [← hwb, chk_zero]; exact Blk.new w (chk0.cs none 0 0) 29
  have KB : Hid (Keeps None w wb) := by rw [← hwb]; exact (Keeps.refl None w).alloc _
  rw [hwb]
  clear hwb
  rw [Nat.add_zero] at z0
  have CB : Hid (∀ w2, Keeps None wb w2 → (w2.cell? ⟨gb, off, none⟩ = some (.int .u8 (c0 : Int)) ∧ w2.cell? ⟨gb, off + 1, none⟩ = some (.int .u8 (c1 : Int))) ∧ Bs w2 (some ⟨gb, off, none⟩) 232 cap zs) := fun w2 k =>
    have k2 := KB.out.trans k (T := None) (fun _ h => h) (fun _ _ h => h)
    ⟨⟨(k2.cell hgb (fun h => h)).trans z0, (k2.cell hgb (fun h => h)).trans z1⟩, HZ.out.keeps k2 (fun _ _ _ _ _ h => h)⟩
  have KR := Lib.hid (Keeps.refl None wb)
  have SB : w.heap.size < wb.heap.size := RB.out.lt
  clear z0 z1
  have KC : Hid (Keeps None wb wb.drew) := (Keeps.refl None wb).drew
  obtain ⟨C, hC⟩ : ∃ C : Chk, (⟨(c0 : Int), (c1 : Int), O, D, List.replicate 8 0, zs.drop 32⟩ : Chk) = C := ⟨_, rfl⟩
  have AG : Hid (∀ A n c, #[.int .i64 (c0 : Int), .int .i64 (c1 : Int), .int .i64 O, .int .i64 D, .int .u8 0, .int .u8 0, .int .u8 0, .int .u8 0, .int .u8 0, .int .u8 0, .int .u8 0, .int .u8 0, .slice A n c] = (C.cs A n c).toArray) := fun A n c => by rw [← hC]; rfl
  have CL : Hid (∀ A n cap, (C.cs A n cap).length = 13) := fun A n cap => by rw [← hC]; rfl
  have HCC := Lib.hid hC
  clear hC
  obtain ⟨mS, mh⟩ : ∃ S : World → Prop, ∀ w', S w' ↔ (w'.cell? ⟨gb, off, none⟩ = some (.int .u8 (c0 : Int)) ∧ w'.cell? ⟨gb, off + 1, none⟩ = some (.int .u8 (c1 : Int))) := ⟨_, fun _ => Iff.rfl⟩
  have mk0 : ∀ x : Memb mS, x.at_.cell? ⟨gb, off, none⟩ = some (.int .u8 (c0 : Int)) := fun x => ((mh _).1 x.is).1
  have mk1 : ∀ x : Memb mS, x.at_.cell? ⟨gb, off + 1, none⟩ = some (.int .u8 (c1 : Int)) := fun x => ((mh _).1 x.is).2
  have mn : Nonempty (Memb mS) := ⟨⟨(wb).drew, (mh _).2 ⟨(CB.out _ KR.out.drew).1.1, (CB.out _ KR.out.drew).1.2⟩⟩⟩
  have mH := Lib.hid mh
  clear mh
  refine wp_region_mixT [10, 14, 18, 20, 21] (InS mS) 3 22 (by kernel_rfl) (by kernel_rfl) (by kernel_rfl) (by kernel_rfl) (InS.mk ((mH.out _).2 ⟨(CB.out _ KR.out.drew).1.1, (CB.out _ KR.out.drew).1.2⟩)) ?_
  refine wpT_node2 (us := [(0, 22)]) [(8, 3)] [(0, 8), (11, 11)] [(20, 1)] [(0, 20), (21, 1)] (by kernel_rfl) ?_ ?_
  ·
    refine wpPs_cons ?_
    try simp only [List.take_succ_cons, List.take_zero, List.drop_succ_cons, List.drop_zero, Nat.reduceSub]
    refine wpMix_seg 2 (by kernel_rfl) (by decide) ?_
    simp only [List.take_succ_cons, List.take_zero, List.drop_succ_cons, List.drop_zero, Nat.reduceSub]
    repeat (go_big_quiet_step (fail))
    refine wpQuiet_nil ?_
    refine wpMix_eff (by kernel_rfl) ?_
    go_wp2_with fail
    refine (V1.out _ (((CB.out _ KC.out).2.drop (by decide)).take (by decide))).mono ?_
    rintro e w' ⟨rfl, rfl⟩
    go_wp2
    refine MixK.on (InS.mk ((mH.out _).2 (⟨(CB.out _ KC.out).1.1, (CB.out _ KC.out).1.2⟩))) ?_
    refine wpMix_nil ?_
    refine wpPs_nil ?_
    refine wpT_node2 (us := [(0, 8), (11, 11)]) [(12, 3)] [(0, 8), (11, 1), (15, 7)] [(20, 1)] [(0, 8), (11, 9), (21, 1)] (by kernel_rfl) ?_ ?_
    ·
      refine wpPs_cons ?_
      try simp only [List.take_succ_cons, List.take_zero, List.drop_succ_cons, List.drop_zero, Nat.reduceSub]
      refine wpMix_seg 2 (by kernel_rfl) (by decide) ?_
      simp only [List.take_succ_cons, List.take_zero, List.drop_succ_cons, List.drop_zero, Nat.reduceSub]
      repeat (go_big_quiet_step (fail))
      refine wpQuiet_nil ?_
      refine wpMix_eff (by kernel_rfl) ?_
      go_wp2_with fail
      refine (V2.out _ (((CB.out _ KC.out).2.drop (by decide)).take (by decide))).mono ?_
      rintro e w' ⟨rfl, rfl⟩
      go_wp2
      refine MixK.on (InS.mk ((mH.out _).2 (⟨(CB.out _ KC.out).1.1, (CB.out _ KC.out).1.2⟩))) ?_
      refine wpMix_nil ?_
      refine wpPs_nil ?_
      refine wpT_node2 (us := [(0, 8), (11, 1), (15, 7)]) [(16, 3)] [(0, 8), (11, 1), (15, 1), (19, 3)] [(20, 1)] [(0, 8), (11, 1), (15, 5), (21, 1)] (by kernel_rfl) ?_ ?_
      ·
        refine wpPs_cons ?_
        try simp only [List.take_succ_cons, List.take_zero, List.drop_succ_cons, List.drop_zero, Nat.reduceSub]
        refine wpMix_seg 2 (by kernel_rfl) (by decide) ?_
        simp only [List.take_succ_cons, List.take_zero, List.drop_succ_cons, List.drop_zero, Nat.reduceSub]
        repeat (go_big_quiet_step (fail))
        refine wpQuiet_nil ?_
        refine wpMix_eff (by kernel_rfl) ?_
        go_wp2_with (at_builtin; refine Hid.out ?_)
        refine Lib.hid ?_
        refine wpList_append_bs (Own.nil _ _) ((CB.out _ KC.out).2.drop (k := 32) (by decide)) (by simp) (Nat.le_refl _) rfl rfl rfl rfl rfl ?_
        intro v2 w2 o2 kz
        rw [List.nil_append] at o2
        have kx := kz.mono (T := None) (fun i hi e => by simp [Value.ownBlock] at e)
        clear kz
        obtain ⟨A2, cap2, rfl, -, -⟩ := o2.shape
        rw [L200.out] at o2 ⊢
        have M0 := Lib.hid (chkV_own o2).lt
        try have NN := Lib.hid (kx.blk NB.out (fun h => h))
        try have MV : Hid (ChkV w2 (fun b => w.heap.size < b ∧ ¬ b = nb) A2 200 cap2 (zs.drop 32)) := M0.out.mono (fun b hb => by have h1 := NB.out.lt; have h2 := KC.out.size; exact ⟨by omega, by omega⟩)
        try clear NB
        try have NB := NN
        try clear NN
        have MW : Hid (ChkV w2 (fun b => w.heap.size < b ∧ b < w2.heap.size) A2 200 cap2 (zs.drop 32)) := M0.out.mono (fun b hb => by have h2 := KC.out.size; exact ⟨by omega, hb.2⟩)
        have KD := Lib.hid (KC.out.trans kx (T := None) (fun _ h => h) (fun _ _ h => h))
        clear KC kx o2 M0
        have KC := KD
        clear KD
        go_wp2
        refine MixK.on (InS.mk ((mH.out _).2 (⟨(CB.out _ KC.out).1.1, (CB.out _ KC.out).1.2⟩))) ?_
        refine wpMix_nil ?_
        refine wpPs_nil ?_
        refine wpT_leaf (ps := [(0, 8), (11, 1), (15, 1), (19, 3)]) (by kernel_rfl) ?_
        refine wpPs_cons ?_
        try simp only [List.take_succ_cons, List.take_zero, List.drop_succ_cons, List.drop_zero, Nat.reduceSub]
        refine wpMix_seg 8 (by kernel_rfl) (by decide) ?_
        simp only [List.take_succ_cons, List.take_zero, List.drop_succ_cons, List.drop_zero, Nat.reduceSub]
        repeat (go_big_quiet_step (fail))
        refine wpQuiet_nil ?_
        refine wpMix_nil ?_
        refine wpPs_cons ?_
        try simp only [List.take_succ_cons, List.take_zero, List.drop_succ_cons, List.drop_zero, Nat.reduceSub]
        refine wpMix_seg 1 (by kernel_rfl) (by decide) ?_
        simp only [List.take_succ_cons, List.take_zero, List.drop_succ_cons, List.drop_zero, Nat.reduceSub]
        repeat (go_big_quiet_step (fail))
        refine wpQuiet_nil ?_
        refine wpMix_nil ?_
        refine wpPs_cons ?_
        try simp only [List.take_succ_cons, List.take_zero, List.drop_succ_cons, List.drop_zero, Nat.reduceSub]
        refine wpMix_seg 1 (by kernel_rfl) (by decide) ?_
        simp only [List.take_succ_cons, List.take_zero, List.drop_succ_cons, List.drop_zero, Nat.reduceSub]
        repeat (go_big_quiet_step (fail))
        refine wpQuiet_nil ?_
        refine wpMix_nil ?_
        refine wpPs_cons ?_
        try simp only [List.take_succ_cons, List.take_zero, List.drop_succ_cons, List.drop_zero, Nat.reduceSub]
        refine wpMix_seg 1 (by kernel_rfl) (by decide) ?_
        simp only [List.take_succ_cons, List.take_zero, List.drop_succ_cons, List.drop_zero, Nat.reduceSub]
        repeat (go_big_quiet_step (fail))
        refine wpQuiet_nil ?_
        refine wpMix_eff (by kernel_rfl) ?_
        go_wp2
        first | (refine Exists.elim (⟨_, rfl⟩ : ∃ x, w2.alloc (.cells #[.int .i64 0, .int .i64 0, .int .i64 0, .int .i64 0, .int .u8 0, .int .u8 0, .int .u8 0, .int .u8 0, .int .u8 0, .int .u8 0, .int .u8 0, .int .u8 0, .slice none 0 0] 29) = x) fun wy hwy => ?_; refine Exists.elim (⟨_, rfl⟩ : ∃ x, w2.heap.size = x) fun nb hnb => ?_; rw [hwy, hnb]) | (refine Exists.elim (⟨_, rfl⟩ : ∃ x, wb.drew.alloc (.cells #[.int .i64 0, .int .i64 0, .int .i64 0, .int .i64 0, .int .u8 0, .int .u8 0, .int .u8 0, .int .u8 0, .int .u8 0, .int .u8 0, .int .u8 0, .int .u8 0, .slice none 0 0] 29) = x) fun wy hwy => ?_; refine Exists.elim (⟨_, rfl⟩ : ∃ x, wb.heap.size = x) fun nb hnb => ?_; rw [hwy, hnb]) | (refine Exists.elim (⟨_, rfl⟩ : ∃ x, (wb.alloc (.cells #[.int .i64 0, .int .i64 0, .int .i64 0, .int .i64 0, .int .u8 0, .int .u8 0, .int .u8 0, .int .u8 0, .int .u8 0, .int .u8 0, .int .u8 0, .int .u8 0, .slice none 0 0] 29)).drew = x) fun wy hwy => ?_; refine Exists.elim (⟨_, rfl⟩ : ∃ x, wb.heap.size = x) fun nb hnb => ?_; rw [hwy, hnb])
        have NB : Hid (Blk wy nb (chk0.cs none 0 0) 29) := by rw [← hwy, ← hnb, chk_zero]; first | exact Blk.new w2 (chk0.cs none 0 0) 29 | exact Blk.new wb.drew (chk0.cs none 0 0) 29 | exact (Blk.new wb (chk0.cs none 0 0) 29).drew
        have NBL : Hid (wb.heap.size ≤ nb) := by rw [← hnb]; exact KC.out.size
        have KD : Hid (Keeps None wb wy) := by rw [← hwy]; first | exact KC.out.alloc _ | exact ((Keeps.refl None wb).alloc _).drew
        try have MV : Hid (ChkV wy (fun b => w.heap.size < b ∧ ¬ b = nb) A2 200 cap2 (zs.drop 32)) := by rw [← hwy, ← hnb]; exact (MW.out.mono (fun b hb => ⟨hb.1, Nat.ne_of_lt hb.2⟩)).later ((Keeps.refl None w2).alloc _)
        clear KC hwy hnb
        have KC := KD
        clear KD
        refine MixK.on (InS.mk ((mH.out _).2 (⟨(CB.out _ KC.out).1.1, (CB.out _ KC.out).1.2⟩))) ?_
        refine wpMix_eff (by kernel_rfl) ?_
        go_wp2_with (refine wpList_store_blk (b := nb) (o := 0) (ds := C.cs A2 200 cap2) NB.out (by rw [CL.out]; decide) (Chk.cs_one _ _ _ _) rfl rfl rfl (congrArg Value.agg (AG.out A2 200 cap2)) (by rw [CL.out]; exact chk_size) ?_)
        intro w3 b3 k3
        rw [splice_all (by rw [CL.out]; rfl)] at b3
        have N3 := Lib.hid b3
        have K3 : Hid (Keeps None wb w3) := KC.out.trans k3 (fun _ h => h) (fun b hb e => absurd e (by have := NBL.out; omega))
        have R3 : Hid (Blk w3 w.heap.size (chk0.cs none 0 0) 29) := K3.out.blk RB.out (fun h => h)
        have M3 : Hid (ChkV w3 (fun b => w.heap.size < b ∧ ¬ b = nb) A2 200 cap2 (zs.drop 32)) := MV.out.keeps k3 (fun b hb e => hb.2 e)
        clear b3 k3 NB KC
        go_wp2
        refine MixK.on (InS.mk ((mH.out _).2 (⟨(CB.out _ K3.out).1.1, (CB.out _ K3.out).1.2⟩))) ?_
        refine wpMix_nil ?_
        refine wpPs_nil ?_
        clear mk0 mk1 mn mH
        have RW : Hid (w.heap.size < nb) := Nat.lt_of_lt_of_le RB.out.lt NBL.out
        clear CL RB KR V1 V2
        go_wp2
        go_loopw [5] (fun iv wr => ∃ k : Nat, k ≤ 8 ∧ iv = .int .i64 (k : Int) ∧ Blk wr nb ((⟨(c0 : Int), (c1 : Int), O, D, fillTo ((zs.drop 24).take 8) 8 k, zs.drop 32⟩ : Chk).cs A2 200 cap2) 29 ∧ Blk wr w.heap.size (chk0.cs none 0 0) 29 ∧ ChkV wr (fun b => w.heap.size < b ∧ ¬ b = nb) A2 200 cap2 (zs.drop 32) ∧ Keeps None wb wr) (fun iv _ => 8 - (intOf iv).toNat)
        case atStart => exact ⟨0, by decide, rfl, by (have h := N3.out; rw [← HCC.out] at h; exact h), R3.out, M3.out, K3.out⟩
        case round =>
          obtain ⟨k, hk8, rfl, hB, hR, hM, hK⟩ := hrel
          have HB := Lib.hid hB
          have HR := Lib.hid hR
          have HM := Lib.hid hM
          have HK := Lib.hid hK
          clear hB hR hM hK N3 R3 M3 K3
          by_cases hlt : k < 8
          · obtain ⟨z, hz⟩ : ∃ z, zs.getD (24 + k) 0 = z := ⟨_, rfl⟩
            have zc := (CB.out _ HK.out).2.cellK (k := 24 + k) (by omega)
            rw [hz] at zc
            have oc := HB.out.cellD (4 + k) _ (Chk.cs_idv _ _ _ _ (fillTo_len HD.out hk8) k hlt)
            have fz := HB.out.frozen (4 + k)
            have B2 : Hid (∀ w', w' = wr.setCell ⟨nb, 4 + k, none⟩ (.int .u8 z) → Blk w' nb ((⟨(c0 : Int), (c1 : Int), O, D, fillTo ((zs.drop 24).take 8) 8 (k + 1), zs.drop 32⟩ : Chk).cs A2 200 cap2) 29 ∧ Blk w' w.heap.size (chk0.cs none 0 0) 29 ∧ ChkV w' (fun b => w.heap.size < b ∧ ¬ b = nb) A2 200 cap2 (zs.drop 32) ∧ Keeps None wb w') := by
              rintro w' rfl
              have ks := (Keeps.refl (fun b => b = nb) wr).setCell ⟨nb, 4 + k, none⟩ (.int .u8 z) (fun _ => rfl)
              refine ⟨?_, HR.out.setOther _ _ (Nat.ne_of_lt RW.out), HM.out.keeps ks (fun b hb e => hb.2 e), HK.out.trans ks (fun _ h => h) (fun b hb e => absurd e (by have := NBL.out; omega))⟩
              have h := HB.out.set (4 + k) (.int .u8 z)
              rw [Chk.cs_set _ _ _ _ _ (by show k < (fillTo _ _ _).length; rw [fillTo_len HD.out hk8]; exact hlt), ← hz, ← getD_drop, ← getD_take8 hlt, fillTo_set HD.out hlt] at h
              rw [← hz, ← getD_drop, ← getD_take8 hlt]
              exact h
            clear HB HR HM HK hz
            go_wp2
            go_roundw
            case rel =>
              obtain ⟨r1, r2, r3, r4⟩ := B2.out _ rfl
              exact ⟨k + 1, by omega, by go_num, r1, r2, r3, r4⟩
            case measure => simp [intOf]; omega
          · obtain rfl : k = 8 := by omega
            rw [fillTo_all HD.out] at HB
            obtain ⟨E, hE⟩ : ∃ E : Chk, chkR zs O D = E := ⟨_, rfl⟩
            have GD : Hid (getChk zs = if chkL E = zs then (E, true) else (chk0, false)) := by rw [← hE]; exact GC.out
            have DO : Hid E.ok := by rw [← hE]; exact COK.out
            have EM : Hid (E.mid = zs.drop 32) := by rw [← hE]; exact Lib.hid rfl
            have BD : Hid (Blk wr nb (E.cs A2 200 cap2) 29) := by
              have h := HB.out
              rw [← HC0.out, ← HC1.out, show (⟨zs.getD 0 0, zs.getD 1 0, O, D, (zs.drop 24).take 8, zs.drop 32⟩ : Chk) = chkR zs O D from rfl, hE] at h
              exact h
            clear HB GC COK hE hlt
            have PUT : Hid (∀ w A cap, Bs w A 200 cap (zs.drop 32) → Calls Try.prog 15 #[.agg (E.cs A 200 cap).toArray] w (Cloned w (chkL E))) := fun w A cap h => rgputk_any E DO.out A 200 cap w (by rw [EM.out]; exact h)
            have HZr := Lib.hid (CB.out _ HK.out).2
            obtain ⟨sz, hsz⟩ : ∃ x, strOf zs = x := ⟨_, rfl⟩
            obtain ⟨sc, hsc⟩ : ∃ x, strOf (chkL E) = x := ⟨_, rfl⟩
            have EQ : Hid (Byt (chkL E) → (sc.toList == sz.toList) = decide (chkL E = zs)) := fun hb => by rw [← hsz, ← hsc]; exact strOf_beq hb HZr.out.byte
            have HSZ := Lib.hid hsz
            have HSC := Lib.hid hsc
            clear hsz hsc
            go_wp2
            obtain ⟨qS, qh⟩ : ∃ S : World → Prop, ∀ w', S w' ↔ (((Instr.loadAt 29 (.pointer (some ⟨nb, 0, none⟩))).run Try.prog w' = .ok (.agg (E.cs A2 200 cap2).toArray) w') ∧ ((convert 27 9 (.slice (some ⟨gb, off, none⟩) 232 cap)).run Try.prog w' = .ok (.string sz) w')) := ⟨_, fun _ => Iff.rfl⟩
            have qk0 : ∀ x : Memb qS, (Instr.loadAt 29 (.pointer (some ⟨nb, 0, none⟩))).run Try.prog x.at_ = .ok (.agg (E.cs A2 200 cap2).toArray) x.at_ := fun x => ((qh _).1 x.is).1
            have qk1 : ∀ x : Memb qS, (convert 27 9 (.slice (some ⟨gb, off, none⟩) 232 cap)).run Try.prog x.at_ = .ok (.string sz) x.at_ := fun x => ((qh _).1 x.is).2
            have qn : Nonempty (Memb qS) := ⟨⟨(wr).drew, (qh _).2 ⟨run_load_chk BD.out.drew (Chk.cs_len DO.out _ _ _), HSZ.out ▸ run_str HZr.out.drew⟩⟩⟩
            have qH := Lib.hid qh
            clear qh
            refine wp_region_mix2 [1] (InS qS) (by kernel_rfl) (by kernel_rfl) (InS.mk ((qH.out _).2 ⟨run_load_chk BD.out.drew (Chk.cs_len DO.out _ _ _), HSZ.out ▸ run_str HZr.out.drew⟩)) ?_
            refine wpMix2_seg 1 (InS qS) (by kernel_rfl) (by decide) (cl_base [] rfl (by kernel_rfl)) ?_
            simp only [List.take_succ_cons, List.take_zero, List.drop_succ_cons, List.drop_zero]
            repeat (first | go_big_quiet_step (fail) | (go_big_quiet_want; first | refine quiet_load qk0 rfl rfl rfl (by simp only [Act.put, List.setIfInBounds_toArray, List.set_cons_succ, List.set_cons_zero]; rfl) ?_; go_big_quiet_on | refine quiet_conv qk1 rfl rfl rfl (by simp only [Act.put, List.setIfInBounds_toArray, List.set_cons_succ, List.set_cons_zero]; rfl) ?_; go_big_quiet_on))
            refine wpQuiet_nil ?_
            refine wpMix2_eff (by kernel_rfl) ?_
            go_wp2_with fail
            refine (PUT.out _ _ _ HM.out.b.drew).mono ?_
            rintro e w7 ⟨v7, rfl, o7, k7⟩
            obtain ⟨A7, cap7, rfl, bs7, -⟩ := o7.shape
            have BS7 := Lib.hid bs7
            have B7 := Lib.hid (k7.blk BD.out.drew (fun h => h))
            have R7 := Lib.hid (k7.blk HR.out.drew (fun h => h))
            have S7 := Lib.hid (HZr.out.drew.keeps k7 (fun _ _ _ _ _ h => h))
            have M7 := Lib.hid ((HM.out.later (Keeps.refl None wr).drew).later k7)
            have K7 := Lib.hid (HK.out.drew.trans k7 (T := None) (fun _ h => h) (fun _ _ h => h))
            obtain ⟨cl, hcl⟩ : ∃ x, (chkL E).length = x := ⟨_, rfl⟩
            rw [hcl] at BS7 ⊢
            clear o7 bs7 k7 hcl
            go_wp2
            obtain ⟨qL2S, qL2h⟩ : ∃ S : World → Prop, ∀ w', S w' ↔ (((convert 27 9 (.slice A7 cl cap7)).run Try.prog w' = .ok (.string sc) w')) := ⟨_, fun _ => Iff.rfl⟩
            have qL2k0 : ∀ x : Memb qL2S, (convert 27 9 (.slice A7 cl cap7)).run Try.prog x.at_ = .ok (.string sc) x.at_ := fun x => ((qL2h _).1 x.is)
            have qL2n : Nonempty (Memb qL2S) := ⟨⟨_, (qL2h _).2 (HSC.out ▸ run_str BS7.out)⟩⟩
            have qL2H := Lib.hid qL2h
            clear qL2h
            refine MixK2.late (D := InS qL2S) (x := 2) (by kernel_rfl) (cls_cons (InS.mk ((qL2H.out _).2 (HSC.out ▸ run_str BS7.out))) (cls_base (InS.mk ((qH.out _).2 (⟨run_load_chk B7.out (Chk.cs_len DO.out _ _ _), HSZ.out ▸ run_str S7.out⟩))))) ?_
            refine wpMix2_seg 1 (InS qL2S) (by kernel_rfl) (by decide) (cl_one rfl) ?_
            simp only [List.take_succ_cons, List.take_zero, List.drop_succ_cons, List.drop_zero]
            repeat (first | go_big_quiet_step (fail) | (go_big_quiet_want; first | refine quiet_load qk0 rfl rfl rfl (by simp only [Act.put, List.setIfInBounds_toArray, List.set_cons_succ, List.set_cons_zero]; rfl) ?_; go_big_quiet_on | refine quiet_conv qk1 rfl rfl rfl (by simp only [Act.put, List.setIfInBounds_toArray, List.set_cons_succ, List.set_cons_zero]; rfl) ?_; go_big_quiet_on | refine quiet_conv qL2k0 rfl rfl rfl (by simp only [Act.put, List.setIfInBounds_toArray, List.set_cons_succ, List.set_cons_zero]; rfl) ?_; go_big_quiet_on))
            refine wpQuiet_nil ?_
            refine wpMix2_seg 3 (InS qS) (by kernel_rfl) (by decide) (cl_base [2] rfl (by kernel_rfl)) ?_
            simp only [List.take_succ_cons, List.take_zero, List.drop_succ_cons, List.drop_zero]
            repeat (first | go_big_quiet_step (fail) | (go_big_quiet_want; first | refine quiet_load qk0 rfl rfl rfl (by simp only [Act.put, List.setIfInBounds_toArray, List.set_cons_succ, List.set_cons_zero]; rfl) ?_; go_big_quiet_on | refine quiet_conv qk1 rfl rfl rfl (by simp only [Act.put, List.setIfInBounds_toArray, List.set_cons_succ, List.set_cons_zero]; rfl) ?_; go_big_quiet_on | refine quiet_conv qL2k0 rfl rfl rfl (by simp only [Act.put, List.setIfInBounds_toArray, List.set_cons_succ, List.set_cons_zero]; rfl) ?_; go_big_quiet_on))
            refine wpQuiet_nil ?_
            refine wpMix2_nil ?_
            clear qk0 qk1 qn qH qL2k0 qL2n qL2H
            have E2 := EQ.out BS7.out.byte
            have KE := Lib.hid (KB.out.trans K7.out (T := None) (fun _ h => h) (fun _ _ h => h))
            clear EQ HSZ HSC PUT BS7 S7 HZr BD HR HM HK K7
            by_cases hq : chkL E = zs
            · rw [decide_eq_true hq] at E2
              rw [if_pos hq] at GD
              rw [E2]
              go_wp2_with (first | (refine wpList_load_blk (b := nb) (o := 0) (ds := E.cs A2 200 cap2) B7.out (fun j v hv => by rw [Nat.zero_add]; exact hv) rfl rfl rfl Try.underlying29 rfl (by rw [Chk.cs_len DO.out]; exact chk_size) ?_) | (refine wpList_store_blk (b := w.heap.size) (o := 0) (ds := E.cs A2 200 cap2) R7.out (by rw [Chk.cs_len DO.out]; decide) (Chk.cs_one _ _ _ _) rfl rfl rfl rfl (by rw [Chk.cs_len DO.out]; exact chk_size) ?_))
              intro w6 b6 k6
              rw [splice_all (by rw [Chk.cs_len DO.out]; rfl)] at b6
              have B6 := Lib.hid b6
              have M6 := Lib.hid (M7.out.keeps k6 (fun b hb e => by have h1 := hb.1; omega))
              have K6 := Lib.hid (KE.out.trans k6 (T := None) (fun _ h => h) (fun b hb e => absurd e (by omega)))
              clear b6 k6 R7 B7 KE E2 M7
              go_wp2
              refine bodyPost_ret (cell_res rfl _ B6.out Try.underlying29 rfl (by rw [Chk.cs_len DO.out]; exact chk_size) rfl rfl) rfl ?_
              exact ⟨A2, 200, cap2, by rw [GD.out]; rfl, by rw [GD.out, EM.out]; exact M6.out.mono (fun b hb => Nat.le_of_lt hb.1), K6.out⟩
            · rw [decide_eq_false hq] at E2
              rw [if_neg hq] at GD
              rw [E2]
              go_wp2_with (refine wpList_store_blk (b := w.heap.size) (o := 0) (ds := chk0.cs none 0 0) R7.out (by decide) (Chk.cs_one _ _ _ _) rfl rfl rfl (by rw [← chk_zero]; rfl) chk_size ?_)
              intro w6 b6 k6
              rw [splice_all rfl] at b6
              have B6 := Lib.hid b6
              have K6 := Lib.hid (KE.out.trans k6 (T := None) (fun _ h => h) (fun b hb e => absurd e (by omega)))
              clear b6 k6 R7 B7 KE E2 M7
              go_wp2
              refine bodyPost_ret (cell_res rfl _ B6.out Try.underlying29 rfl chk_size rfl rfl) rfl ?_
              exact ⟨none, 0, 0, by rw [GD.out]; rfl, by rw [GD.out]; exact ChkV.nil _ _, K6.out⟩
      ·
        refine wpPs_cons ?_
        try simp only [List.take_succ_cons, List.take_zero, List.drop_succ_cons, List.drop_zero, Nat.reduceSub]
        refine wpMix_eff (by kernel_rfl) ?_
        go_wp2
        first | (refine Exists.elim (⟨_, rfl⟩ : ∃ x, w2.alloc (.cells #[.int .i64 0, .int .i64 0, .int .i64 0, .int .i64 0, .int .u8 0, .int .u8 0, .int .u8 0, .int .u8 0, .int .u8 0, .int .u8 0, .int .u8 0, .int .u8 0, .slice none 0 0] 29) = x) fun wy hwy => ?_; refine Exists.elim (⟨_, rfl⟩ : ∃ x, w2.heap.size = x) fun nb hnb => ?_; rw [hwy, hnb]) | (refine Exists.elim (⟨_, rfl⟩ : ∃ x, wb.drew.alloc (.cells #[.int .i64 0, .int .i64 0, .int .i64 0, .int .i64 0, .int .u8 0, .int .u8 0, .int .u8 0, .int .u8 0, .int .u8 0, .int .u8 0, .int .u8 0, .int .u8 0, .slice none 0 0] 29) = x) fun wy hwy => ?_; refine Exists.elim (⟨_, rfl⟩ : ∃ x, wb.heap.size = x) fun nb hnb => ?_; rw [hwy, hnb]) | (refine Exists.elim (⟨_, rfl⟩ : ∃ x, (wb.alloc (.cells #[.int .i64 0, .int .i64 0, .int .i64 0, .int .i64 0, .int .u8 0, .int .u8 0, .int .u8 0, .int .u8 0, .int .u8 0, .int .u8 0, .int .u8 0, .int .u8 0, .slice none 0 0] 29)).drew = x) fun wy hwy => ?_; refine Exists.elim (⟨_, rfl⟩ : ∃ x, wb.heap.size = x) fun nb hnb => ?_; rw [hwy, hnb])
        have NB : Hid (Blk wy nb (chk0.cs none 0 0) 29) := by rw [← hwy, ← hnb, chk_zero]; first | exact Blk.new w2 (chk0.cs none 0 0) 29 | exact Blk.new wb.drew (chk0.cs none 0 0) 29 | exact (Blk.new wb (chk0.cs none 0 0) 29).drew
        have NBL : Hid (wb.heap.size ≤ nb) := by rw [← hnb]; exact KC.out.size
        have KD : Hid (Keeps None wb wy) := by rw [← hwy]; first | exact KC.out.alloc _ | exact ((Keeps.refl None wb).alloc _).drew
        try have MV : Hid (ChkV wy (fun b => w.heap.size < b ∧ ¬ b = nb) A2 200 cap2 (zs.drop 32)) := by rw [← hwy, ← hnb]; exact (MW.out.mono (fun b hb => ⟨hb.1, Nat.ne_of_lt hb.2⟩)).later ((Keeps.refl None w2).alloc _)
        clear KC hwy hnb
        have KC := KD
        clear KD
        refine MixK.on (InS.mk ((mH.out _).2 (⟨(CB.out _ KC.out).1.1, (CB.out _ KC.out).1.2⟩))) ?_
        refine wpMix_nil ?_
        refine wpPs_nil ?_
        refine wpT_leaf (ps := [(0, 8), (11, 1), (15, 5), (21, 1)]) (by kernel_rfl) ?_
        refine wpPs_cons ?_
        try simp only [List.take_succ_cons, List.take_zero, List.drop_succ_cons, List.drop_zero, Nat.reduceSub]
        refine wpMix_seg 8 (by kernel_rfl) (by decide) ?_
        simp only [List.take_succ_cons, List.take_zero, List.drop_succ_cons, List.drop_zero, Nat.reduceSub]
        repeat (go_big_quiet_step (fail))
        refine wpQuiet_nil ?_
        refine wpMix_nil ?_
        refine wpPs_cons ?_
        try simp only [List.take_succ_cons, List.take_zero, List.drop_succ_cons, List.drop_zero, Nat.reduceSub]
        refine wpMix_seg 1 (by kernel_rfl) (by decide) ?_
        simp only [List.take_succ_cons, List.take_zero, List.drop_succ_cons, List.drop_zero, Nat.reduceSub]
        repeat (go_big_quiet_step (fail))
        refine wpQuiet_nil ?_
        refine wpMix_nil ?_
        refine wpPs_cons ?_
        try simp only [List.take_succ_cons, List.take_zero, List.drop_succ_cons, List.drop_zero, Nat.reduceSub]
        refine wpMix_seg 3 (by kernel_rfl) (by decide) ?_
        simp only [List.take_succ_cons, List.take_zero, List.drop_succ_cons, List.drop_zero, Nat.reduceSub]
        repeat (go_big_quiet_step (fail))
        refine wpQuiet_nil ?_
        refine wpMix_eff (by kernel_rfl) ?_
        go_wp2_with (at_builtin; refine Hid.out ?_)
        refine Lib.hid ?_
        refine wpList_append_bs (Own.nil _ _) ((CB.out _ KC.out).2.drop (k := 32) (by decide)) (by simp) (Nat.le_refl _) rfl rfl rfl rfl rfl ?_
        intro v2 w2 o2 kz
        rw [List.nil_append] at o2
        have kx := kz.mono (T := None) (fun i hi e => by simp [Value.ownBlock] at e)
        clear kz
        obtain ⟨A2, cap2, rfl, -, -⟩ := o2.shape
        rw [L200.out] at o2 ⊢
        have M0 := Lib.hid (chkV_own o2).lt
        try have NN := Lib.hid (kx.blk NB.out (fun h => h))
        try have MV : Hid (ChkV w2 (fun b => w.heap.size < b ∧ ¬ b = nb) A2 200 cap2 (zs.drop 32)) := M0.out.mono (fun b hb => by have h1 := NB.out.lt; have h2 := KC.out.size; exact ⟨by omega, by omega⟩)
        try clear NB
        try have NB := NN
        try clear NN
        have MW : Hid (ChkV w2 (fun b => w.heap.size < b ∧ b < w2.heap.size) A2 200 cap2 (zs.drop 32)) := M0.out.mono (fun b hb => by have h2 := KC.out.size; exact ⟨by omega, hb.2⟩)
        have KD := Lib.hid (KC.out.trans kx (T := None) (fun _ h => h) (fun _ _ h => h))
        clear KC kx o2 M0
        have KC := KD
        clear KD
        go_wp2
        refine MixK.on (InS.mk ((mH.out _).2 (⟨(CB.out _ KC.out).1.1, (CB.out _ KC.out).1.2⟩))) ?_
        refine wpMix_seg 1 (by kernel_rfl) (by decide) ?_
        simp only [List.take_succ_cons, List.take_zero, List.drop_succ_cons, List.drop_zero, Nat.reduceSub]
        repeat (go_big_quiet_step (fail))
        refine wpQuiet_nil ?_
        refine wpMix_nil ?_
        refine wpPs_cons ?_
        try simp only [List.take_succ_cons, List.take_zero, List.drop_succ_cons, List.drop_zero, Nat.reduceSub]
        refine wpMix_eff (by kernel_rfl) ?_
        go_wp2_with (refine wpList_store_blk (b := nb) (o := 0) (ds := C.cs A2 200 cap2) NB.out (by rw [CL.out]; decide) (Chk.cs_one _ _ _ _) rfl rfl rfl (congrArg Value.agg (AG.out A2 200 cap2)) (by rw [CL.out]; exact chk_size) ?_)
        intro w3 b3 k3
        rw [splice_all (by rw [CL.out]; rfl)] at b3
        have N3 := Lib.hid b3
        have K3 : Hid (Keeps None wb w3) := KC.out.trans k3 (fun _ h => h) (fun b hb e => absurd e (by have := NBL.out; omega))
        have R3 : Hid (Blk w3 w.heap.size (chk0.cs none 0 0) 29) := K3.out.blk RB.out (fun h => h)
        have M3 : Hid (ChkV w3 (fun b => w.heap.size < b ∧ ¬ b = nb) A2 200 cap2 (zs.drop 32)) := MV.out.keeps k3 (fun b hb e => hb.2 e)
        clear b3 k3 NB KC
        go_wp2
        refine MixK.on (InS.mk ((mH.out _).2 (⟨(CB.out _ K3.out).1.1, (CB.out _ K3.out).1.2⟩))) ?_
        refine wpMix_nil ?_
        refine wpPs_nil ?_
        clear mk0 mk1 mn mH
        have RW : Hid (w.heap.size < nb) := Nat.lt_of_lt_of_le RB.out.lt NBL.out
        clear CL RB KR V1 V2
        go_wp2
        go_loopw [5] (fun iv wr => ∃ k : Nat, k ≤ 8 ∧ iv = .int .i64 (k : Int) ∧ Blk wr nb ((⟨(c0 : Int), (c1 : Int), O, D, fillTo ((zs.drop 24).take 8) 8 k, zs.drop 32⟩ : Chk).cs A2 200 cap2) 29 ∧ Blk wr w.heap.size (chk0.cs none 0 0) 29 ∧ ChkV wr (fun b => w.heap.size < b ∧ ¬ b = nb) A2 200 cap2 (zs.drop 32) ∧ Keeps None wb wr) (fun iv _ => 8 - (intOf iv).toNat)
        case atStart => exact ⟨0, by decide, rfl, by (have h := N3.out; rw [← HCC.out] at h; exact h), R3.out, M3.out, K3.out⟩
        case round =>
          obtain ⟨k, hk8, rfl, hB, hR, hM, hK⟩ := hrel
          have HB := Lib.hid hB
          have HR := Lib.hid hR
          have HM := Lib.hid hM
          have HK := Lib.hid hK
          clear hB hR hM hK N3 R3 M3 K3
          by_cases hlt : k < 8
          · obtain ⟨z, hz⟩ : ∃ z, zs.getD (24 + k) 0 = z := ⟨_, rfl⟩
            have zc := (CB.out _ HK.out).2.cellK (k := 24 + k) (by omega)
            rw [hz] at zc
            have oc := HB.out.cellD (4 + k) _ (Chk.cs_idv _ _ _ _ (fillTo_len HD.out hk8) k hlt)
            have fz := HB.out.frozen (4 + k)
            have B2 : Hid (∀ w', w' = wr.setCell ⟨nb, 4 + k, none⟩ (.int .u8 z) → Blk w' nb ((⟨(c0 : Int), (c1 : Int), O, D, fillTo ((zs.drop 24).take 8) 8 (k + 1), zs.drop 32⟩ : Chk).cs A2 200 cap2) 29 ∧ Blk w' w.heap.size (chk0.cs none 0 0) 29 ∧ ChkV w' (fun b => w.heap.size < b ∧ ¬ b = nb) A2 200 cap2 (zs.drop 32) ∧ Keeps None wb w') := by
              rintro w' rfl
              have ks := (Keeps.refl (fun b => b = nb) wr).setCell ⟨nb, 4 + k, none⟩ (.int .u8 z) (fun _ => rfl)
              refine ⟨?_, HR.out.setOther _ _ (Nat.ne_of_lt RW.out), HM.out.keeps ks (fun b hb e => hb.2 e), HK.out.trans ks (fun _ h => h) (fun b hb e => absurd e (by have := NBL.out; omega))⟩
              have h := HB.out.set (4 + k) (.int .u8 z)
              rw [Chk.cs_set _ _ _ _ _ (by show k < (fillTo _ _ _).length; rw [fillTo_len HD.out hk8]; exact hlt), ← hz, ← getD_drop, ← getD_take8 hlt, fillTo_set HD.out hlt] at h
              rw [← hz, ← getD_drop, ← getD_take8 hlt]
              exact h
            clear HB HR HM HK hz
            go_wp2
            go_roundw
            case rel =>
              obtain ⟨r1, r2, r3, r4⟩ := B2.out _ rfl
              exact ⟨k + 1, by omega, by go_num, r1, r2, r3, r4⟩
            case measure => simp [intOf]; omega
          · obtain rfl : k = 8 := by omega
            rw [fillTo_all HD.out] at HB
            obtain ⟨E, hE⟩ : ∃ E : Chk, chkR zs O D = E := ⟨_, rfl⟩
            have GD : Hid (getChk zs = if chkL E = zs then (E, true) else (chk0, false)) := by rw [← hE]; exact GC.out
            have DO : Hid E.ok := by rw [← hE]; exact COK.out
            have EM : Hid (E.mid = zs.drop 32) := by rw [← hE]; exact Lib.hid rfl
            have BD : Hid (Blk wr nb (E.cs A2 200 cap2) 29) := by
              have h := HB.out
              rw [← HC0.out, ← HC1.out, show (⟨zs.getD 0 0, zs.getD 1 0, O, D, (zs.drop 24).take 8, zs.drop 32⟩ : Chk) = chkR zs O D from rfl, hE] at h
              exact h
            clear HB GC COK hE hlt
            have PUT : Hid (∀ w A cap, Bs w A 200 cap (zs.drop 32) → Calls Try.prog 15 #[.agg (E.cs A 200 cap).toArray] w (Cloned w (chkL E))) := fun w A cap h => rgputk_any E DO.out A 200 cap w (by rw [EM.out]; exact h)
            have HZr := Lib.hid (CB.out _ HK.out).2
            obtain ⟨sz, hsz⟩ : ∃ x, strOf zs = x := ⟨_, rfl⟩
            obtain ⟨sc, hsc⟩ : ∃ x, strOf (chkL E) = x := ⟨_, rfl⟩
            have EQ : Hid (Byt (chkL E) → (sc.toList == sz.toList) = decide (chkL E = zs)) := fun hb => by rw [← hsz, ← hsc]; exact strOf_beq hb HZr.out.byte
            have HSZ := Lib.hid hsz
            have HSC := Lib.hid hsc
            clear hsz hsc
            go_wp2
            obtain ⟨qS, qh⟩ : ∃ S : World → Prop, ∀ w', S w' ↔ (((Instr.loadAt 29 (.pointer (some ⟨nb, 0, none⟩))).run Try.prog w' = .ok (.agg (E.cs A2 200 cap2).toArray) w') ∧ ((convert 27 9 (.slice (some ⟨gb, off, none⟩) 232 cap)).run Try.prog w' = .ok (.string sz) w')) := ⟨_, fun _ => Iff.rfl⟩
            have qk0 : ∀ x : Memb qS, (Instr.loadAt 29 (.pointer (some ⟨nb, 0, none⟩))).run Try.prog x.at_ = .ok (.agg (E.cs A2 200 cap2).toArray) x.at_ := fun x => ((qh _).1 x.is).1
            have qk1 : ∀ x : Memb qS, (convert 27 9 (.slice (some ⟨gb, off, none⟩) 232 cap)).run Try.prog x.at_ = .ok (.string sz) x.at_ := fun x => ((qh _).1 x.is).2
            have qn : Nonempty (Memb qS) := ⟨⟨(wr).drew, (qh _).2 ⟨run_load_chk BD.out.drew (Chk.cs_len DO.out _ _ _), HSZ.out ▸ run_str HZr.out.drew⟩⟩⟩
            have qH := Lib.hid qh
            clear qh
            refine wp_region_mix2 [1] (InS qS) (by kernel_rfl) (by kernel_rfl) (InS.mk ((qH.out _).2 ⟨run_load_chk BD.out.drew (Chk.cs_len DO.out _ _ _), HSZ.out ▸ run_str HZr.out.drew⟩)) ?_
            refine wpMix2_seg 1 (InS qS) (by kernel_rfl) (by decide) (cl_base [] rfl (by kernel_rfl)) ?_
            simp only [List.take_succ_cons, List.take_zero, List.drop_succ_cons, List.drop_zero]
            repeat (first | go_big_quiet_step (fail) | (go_big_quiet_want; first | refine quiet_load qk0 rfl rfl rfl (by simp only [Act.put, List.setIfInBounds_toArray, List.set_cons_succ, List.set_cons_zero]; rfl) ?_; go_big_quiet_on | refine quiet_conv qk1 rfl rfl rfl (by simp only [Act.put, List.setIfInBounds_toArray, List.set_cons_succ, List.set_cons_zero]; rfl) ?_; go_big_quiet_on))
            refine wpQuiet_nil ?_
            refine wpMix2_eff (by kernel_rfl) ?_
            go_wp2_with fail
            refine (PUT.out _ _ _ HM.out.b.drew).mono ?_
            rintro e w7 ⟨v7, rfl, o7, k7⟩
            obtain ⟨A7, cap7, rfl, bs7, -⟩ := o7.shape
            have BS7 := Lib.hid bs7
            have B7 := Lib.hid (k7.blk BD.out.drew (fun h => h))
            have R7 := Lib.hid (k7.blk HR.out.drew (fun h => h))
            have S7 := Lib.hid (HZr.out.drew.keeps k7 (fun _ _ _ _ _ h => h))
            have M7 := Lib.hid ((HM.out.later (Keeps.refl None wr).drew).later k7)
            have K7 := Lib.hid (HK.out.drew.trans k7 (T := None) (fun _ h => h) (fun _ _ h => h))
            obtain ⟨cl, hcl⟩ : ∃ x, (chkL E).length = x := ⟨_, rfl⟩
            rw [hcl] at BS7 ⊢
            clear o7 bs7 k7 hcl
            go_wp2
            obtain ⟨qL2S, qL2h⟩ : ∃ S : World → Prop, ∀ w', S w' ↔ (((convert 27 9 (.slice A7 cl cap7)).run Try.prog w' = .ok (.string sc) w')) := ⟨_, fun _ => Iff.rfl⟩
            have qL2k0 : ∀ x : Memb qL2S, (convert 27 9 (.slice A7 cl cap7)).run Try.prog x.at_ = .ok (.string sc) x.at_ := fun x => ((qL2h _).1 x.is)
            have qL2n : Nonempty (Memb qL2S) := ⟨⟨_, (qL2h _).2 (HSC.out ▸ run_str BS7.out)⟩⟩
            have qL2H := Lib.hid qL2h
            clear qL2h
            refine MixK2.late (D := InS qL2S) (x := 2) (by kernel_rfl) (cls_cons (InS.mk ((qL2H.out _).2 (HSC.out ▸ run_str BS7.out))) (cls_base (InS.mk ((qH.out _).2 (⟨run_load_chk B7.out (Chk.cs_len DO.out _ _ _), HSZ.out ▸ run_str S7.out⟩))))) ?_
            refine wpMix2_seg 1 (InS qL2S) (by kernel_rfl) (by decide) (cl_one rfl) ?_
            simp only [List.take_succ_cons, List.take_zero, List.drop_succ_cons, List.drop_zero]
            repeat (first | go_big_quiet_step (fail) | (go_big_quiet_want; first | refine quiet_load qk0 rfl rfl rfl (by simp only [Act.put, List.setIfInBounds_toArray, List.set_cons_succ, List.set_cons_zero]; rfl) ?_; go_big_quiet_on | refine quiet_conv qk1 rfl rfl rfl (by simp only [Act.put, List.setIfInBounds_toArray, List.set_cons_succ, List.set_cons_zero]; rfl) ?_; go_big_quiet_on | refine quiet_conv qL2k0 rfl rfl rfl (by simp only [Act.put, List.setIfInBounds_toArray, List.set_cons_succ, List.set_cons_zero]; rfl) ?_; go_big_quiet_on))
            refine wpQuiet_nil ?_
            refine wpMix2_seg 3 (InS qS) (by kernel_rfl) (by decide) (cl_base [2] rfl (by kernel_rfl)) ?_
            simp only [List.take_succ_cons, List.take_zero, List.drop_succ_cons, List.drop_zero]
            repeat (first | go_big_quiet_step (fail) | (go_big_quiet_want; first | refine quiet_load qk0 rfl rfl rfl (by simp only [Act.put, List.setIfInBounds_toArray, List.set_cons_succ, List.set_cons_zero]; rfl) ?_; go_big_quiet_on | refine quiet_conv qk1 rfl rfl rfl (by simp only [Act.put, List.setIfInBounds_toArray, List.set_cons_succ, List.set_cons_zero]; rfl) ?_; go_big_quiet_on | refine quiet_conv qL2k0 rfl rfl rfl (by simp only [Act.put, List.setIfInBounds_toArray, List.set_cons_succ, List.set_cons_zero]; rfl) ?_; go_big_quiet_on))
            refine wpQuiet_nil ?_
            refine wpMix2_nil ?_
            clear qk0 qk1 qn qH qL2k0 qL2n qL2H
            have E2 := EQ.out BS7.out.byte
            have KE := Lib.hid (KB.out.trans K7.out (T := None) (fun _ h => h) (fun _ _ h => h))
            clear EQ HSZ HSC PUT BS7 S7 HZr BD HR HM HK K7
            by_cases hq : chkL E = zs
            · rw [decide_eq_true hq] at E2
              rw [if_pos hq] at GD
              rw [E2]
              go_wp2_with (first | (refine wpList_load_blk (b := nb) (o := 0) (ds := E.cs A2 200 cap2) B7.out (fun j v hv => by rw [Nat.zero_add]; exact hv) rfl rfl rfl Try.underlying29 rfl (by rw [Chk.cs_len DO.out]; exact chk_size) ?_) | (refine wpList_store_blk (b := w.heap.size) (o := 0) (ds := E.cs A2 200 cap2) R7.out (by rw [Chk.cs_len DO.out]; decide) (Chk.cs_one _ _ _ _) rfl rfl rfl rfl (by rw [Chk.cs_len DO.out]; exact chk_size) ?_))
              intro w6 b6 k6
              rw [splice_all (by rw [Chk.cs_len DO.out]; rfl)] at b6
              have B6 := Lib.hid b6
              have M6 := Lib.hid (M7.out.keeps k6 (fun b hb e => by have h1 := hb.1; omega))
              have K6 := Lib.hid (KE.out.trans k6 (T := None) (fun _ h => h) (fun b hb e => absurd e (by omega)))
              clear b6 k6 R7 B7 KE E2 M7
              go_wp2
              refine bodyPost_ret (cell_res rfl _ B6.out Try.underlying29 rfl (by rw [Chk.cs_len DO.out]; exact chk_size) rfl rfl) rfl ?_
              exact ⟨A2, 200, cap2, by rw [GD.out]; rfl, by rw [GD.out, EM.out]; exact M6.out.mono (fun b hb => Nat.le_of_lt hb.1), K6.out⟩
            · rw [decide_eq_false hq] at E2
              rw [if_neg hq] at GD
              rw [E2]
              go_wp2_with (refine wpList_store_blk (b := w.heap.size) (o := 0) (ds := chk0.cs none 0 0) R7.out (by decide) (Chk.cs_one _ _ _ _) rfl rfl rfl (by rw [← chk_zero]; rfl) chk_size ?_)
              intro w6 b6 k6
              rw [splice_all rfl] at b6
              have B6 := Lib.hid b6
              have K6 := Lib.hid (KE.out.trans k6 (T := None) (fun _ h => h) (fun b hb e => absurd e (by omega)))
              clear b6 k6 R7 B7 KE E2 M7
              go_wp2
              refine bodyPost_ret (cell_res rfl _ B6.out Try.underlying29 rfl chk_size rfl rfl) rfl ?_
              exact ⟨none, 0, 0, by rw [GD.out]; rfl, by rw [GD.out]; exact ChkV.nil _ _, K6.out⟩
    ·
      refine wpPs_cons ?_
      try simp only [List.take_succ_cons, List.take_zero, List.drop_succ_cons, List.drop_zero, Nat.reduceSub]
      refine wpMix_eff (by kernel_rfl) ?_
      go_wp2
      first | (refine Exists.elim (⟨_, rfl⟩ : ∃ x, w2.alloc (.cells #[.int .i64 0, .int .i64 0, .int .i64 0, .int .i64 0, .int .u8 0, .int .u8 0, .int .u8 0, .int .u8 0, .int .u8 0, .int .u8 0, .int .u8 0, .int .u8 0, .slice none 0 0] 29) = x) fun wy hwy => ?_; refine Exists.elim (⟨_, rfl⟩ : ∃ x, w2.heap.size = x) fun nb hnb => ?_; rw [hwy, hnb]) | (refine Exists.elim (⟨_, rfl⟩ : ∃ x, wb.drew.alloc (.cells #[.int .i64 0, .int .i64 0, .int .i64 0, .int .i64 0, .int .u8 0, .int .u8 0, .int .u8 0, .int .u8 0, .int .u8 0, .int .u8 0, .int .u8 0, .int .u8 0, .slice none 0 0] 29) = x) fun wy hwy => ?_; refine Exists.elim (⟨_, rfl⟩ : ∃ x, wb.heap.size = x) fun nb hnb => ?_; rw [hwy, hnb]) | (refine Exists.elim (⟨_, rfl⟩ : ∃ x, (wb.alloc (.cells #[.int .i64 0, .int .i64 0, .int .i64 0, .int .i64 0, .int .u8 0, .int .u8 0, .int .u8 0, .int .u8 0, .int .u8 0, .int .u8 0, .int .u8 0, .int .u8 0, .slice none 0 0] 29)).drew = x) fun wy hwy => ?_; refine Exists.elim (⟨_, rfl⟩ : ∃ x, wb.heap.size = x) fun nb hnb => ?_; rw [hwy, hnb])
      have NB : Hid (Blk wy nb (chk0.cs none 0 0) 29) := by rw [← hwy, ← hnb, chk_zero]; first | exact Blk.new w2 (chk0.cs none 0 0) 29 | exact Blk.new wb.drew (chk0.cs none 0 0) 29 | exact (Blk.new wb (chk0.cs none 0 0) 29).drew
      have NBL : Hid (wb.heap.size ≤ nb) := by rw [← hnb]; exact KC.out.size
      have KD : Hid (Keeps None wb wy) := by rw [← hwy]; first | exact KC.out.alloc _ | exact ((Keeps.refl None wb).alloc _).drew
      try have MV : Hid (ChkV wy (fun b => w.heap.size < b ∧ ¬ b = nb) A2 200 cap2 (zs.drop 32)) := by rw [← hwy, ← hnb]; exact (MW.out.mono (fun b hb => ⟨hb.1, Nat.ne_of_lt hb.2⟩)).later ((Keeps.refl None w2).alloc _)
      clear KC hwy hnb
      have KC := KD
      clear KD
      refine MixK.on (InS.mk ((mH.out _).2 (⟨(CB.out _ KC.out).1.1, (CB.out _ KC.out).1.2⟩))) ?_
      refine wpMix_nil ?_
      refine wpPs_nil ?_
      refine wpT_node1 (us := [(0, 8), (11, 9), (21, 1)]) [(12, 3)] [(0, 8), (11, 1), (15, 5), (21, 1)] (by kernel_rfl) ?_
      ·
        refine wpPs_cons ?_
        try simp only [List.take_succ_cons, List.take_zero, List.drop_succ_cons, List.drop_zero, Nat.reduceSub]
        refine wpMix_seg 2 (by kernel_rfl) (by decide) ?_
        simp only [List.take_succ_cons, List.take_zero, List.drop_succ_cons, List.drop_zero, Nat.reduceSub]
        repeat (go_big_quiet_step (fail))
        refine wpQuiet_nil ?_
        refine wpMix_eff (by kernel_rfl) ?_
        go_wp2_with fail
        refine (V2.out _ (((CB.out _ KC.out).2.drop (by decide)).take (by decide))).mono ?_
        rintro e w' ⟨rfl, rfl⟩
        go_wp2
        refine MixK.on (InS.mk ((mH.out _).2 (⟨(CB.out _ KC.out).1.1, (CB.out _ KC.out).1.2⟩))) ?_
        refine wpMix_nil ?_
        refine wpPs_nil ?_
        refine wpT_leaf (ps := [(0, 8), (11, 1), (15, 5), (21, 1)]) (by kernel_rfl) ?_
        refine wpPs_cons ?_
        try simp only [List.take_succ_cons, List.take_zero, List.drop_succ_cons, List.drop_zero, Nat.reduceSub]
        refine wpMix_seg 8 (by kernel_rfl) (by decide) ?_
        simp only [List.take_succ_cons, List.take_zero, List.drop_succ_cons, List.drop_zero, Nat.reduceSub]
        repeat (go_big_quiet_step (fail))
        refine wpQuiet_nil ?_
        refine wpMix_nil ?_
        refine wpPs_cons ?_
        try simp only [List.take_succ_cons, List.take_zero, List.drop_succ_cons, List.drop_zero, Nat.reduceSub]
        refine wpMix_seg 1 (by kernel_rfl) (by decide) ?_
        simp only [List.take_succ_cons, List.take_zero, List.drop_succ_cons, List.drop_zero, Nat.reduceSub]
        repeat (go_big_quiet_step (fail))
        refine wpQuiet_nil ?_
        refine wpMix_nil ?_
        refine wpPs_cons ?_
        try simp only [List.take_succ_cons, List.take_zero, List.drop_succ_cons, List.drop_zero, Nat.reduceSub]
        refine wpMix_seg 3 (by kernel_rfl) (by decide) ?_
        simp only [List.take_succ_cons, List.take_zero, List.drop_succ_cons, List.drop_zero, Nat.reduceSub]
        repeat (go_big_quiet_step (fail))
        refine wpQuiet_nil ?_
        refine wpMix_eff (by kernel_rfl) ?_
        go_wp2_with (at_builtin; refine Hid.out ?_)
        refine Lib.hid ?_
        refine wpList_append_bs (Own.nil _ _) ((CB.out _ KC.out).2.drop (k := 32) (by decide)) (by simp) (Nat.le_refl _) rfl rfl rfl rfl rfl ?_
        intro v2 w2 o2 kz
        rw [List.nil_append] at o2
        have kx := kz.mono (T := None) (fun i hi e => by simp [Value.ownBlock] at e)
        clear kz
        obtain ⟨A2, cap2, rfl, -, -⟩ := o2.shape
        rw [L200.out] at o2 ⊢
        have M0 := Lib.hid (chkV_own o2).lt
        try have NN := Lib.hid (kx.blk NB.out (fun h => h))
        try have MV : Hid (ChkV w2 (fun b => w.heap.size < b ∧ ¬ b = nb) A2 200 cap2 (zs.drop 32)) := M0.out.mono (fun b hb => by have h1 := NB.out.lt; have h2 := KC.out.size; exact ⟨by omega, by omega⟩)
        try clear NB
        try have NB := NN
        try clear NN
        have MW : Hid (ChkV w2 (fun b => w.heap.size < b ∧ b < w2.heap.size) A2 200 cap2 (zs.drop 32)) := M0.out.mono (fun b hb => by have h2 := KC.out.size; exact ⟨by omega, hb.2⟩)
        have KD := Lib.hid (KC.out.trans kx (T := None) (fun _ h => h) (fun _ _ h => h))
        clear KC kx o2 M0
        have KC := KD
        clear KD
        go_wp2
        refine MixK.on (InS.mk ((mH.out _).2 (⟨(CB.out _ KC.out).1.1, (CB.out _ KC.out).1.2⟩))) ?_
        refine wpMix_seg 1 (by kernel_rfl) (by decide) ?_
        simp only [List.take_succ_cons, List.take_zero, List.drop_succ_cons, List.drop_zero, Nat.reduceSub]
        repeat (go_big_quiet_step (fail))
        refine wpQuiet_nil ?_
        refine wpMix_nil ?_
        refine wpPs_cons ?_
        try simp only [List.take_succ_cons, List.take_zero, List.drop_succ_cons, List.drop_zero, Nat.reduceSub]
        refine wpMix_eff (by kernel_rfl) ?_
        go_wp2_with (refine wpList_store_blk (b := nb) (o := 0) (ds := C.cs A2 200 cap2) NB.out (by rw [CL.out]; decide) (Chk.cs_one _ _ _ _) rfl rfl rfl (congrArg Value.agg (AG.out A2 200 cap2)) (by rw [CL.out]; exact chk_size) ?_)
        intro w3 b3 k3
        rw [splice_all (by rw [CL.out]; rfl)] at b3
        have N3 := Lib.hid b3
        have K3 : Hid (Keeps None wb w3) := KC.out.trans k3 (fun _ h => h) (fun b hb e => absurd e (by have := NBL.out; omega))
        have R3 : Hid (Blk w3 w.heap.size (chk0.cs none 0 0) 29) := K3.out.blk RB.out (fun h => h)
        have M3 : Hid (ChkV w3 (fun b => w.heap.size < b ∧ ¬ b = nb) A2 200 cap2 (zs.drop 32)) := MV.out.keeps k3 (fun b hb e => hb.2 e)
        clear b3 k3 NB KC
        go_wp2
        refine MixK.on (InS.mk ((mH.out _).2 (⟨(CB.out _ K3.out).1.1, (CB.out _ K3.out).1.2⟩))) ?_
        refine wpMix_nil ?_
        refine wpPs_nil ?_
        clear mk0 mk1 mn mH
        have RW : Hid (w.heap.size < nb) := Nat.lt_of_lt_of_le RB.out.lt NBL.out
        clear CL RB KR V1 V2
        go_wp2
        go_loopw [5] (fun iv wr => ∃ k : Nat, k ≤ 8 ∧ iv = .int .i64 (k : Int) ∧ Blk wr nb ((⟨(c0 : Int), (c1 : Int), O, D, fillTo ((zs.drop 24).take 8) 8 k, zs.drop 32⟩ : Chk).cs A2 200 cap2) 29 ∧ Blk wr w.heap.size (chk0.cs none 0 0) 29 ∧ ChkV wr (fun b => w.heap.size < b ∧ ¬ b = nb) A2 200 cap2 (zs.drop 32) ∧ Keeps None wb wr) (fun iv _ => 8 - (intOf iv).toNat)
        case atStart => exact ⟨0, by decide, rfl, by (have h := N3.out; rw [← HCC.out] at h; exact h), R3.out, M3.out, K3.out⟩
        case round =>
          obtain ⟨k, hk8, rfl, hB, hR, hM, hK⟩ := hrel
          have HB := Lib.hid hB
          have HR := Lib.hid hR
          have HM := Lib.hid hM
          have HK := Lib.hid hK
          clear hB hR hM hK N3 R3 M3 K3
          by_cases hlt : k < 8
          · obtain ⟨z, hz⟩ : ∃ z, zs.getD (24 + k) 0 = z := ⟨_, rfl⟩
            have zc := (CB.out _ HK.out).2.cellK (k := 24 + k) (by omega)
            rw [hz] at zc
            have oc := HB.out.cellD (4 + k) _ (Chk.cs_idv _ _ _ _ (fillTo_len HD.out hk8) k hlt)
            have fz := HB.out.frozen (4 + k)
            have B2 : Hid (∀ w', w' = wr.setCell ⟨nb, 4 + k, none⟩ (.int .u8 z) → Blk w' nb ((⟨(c0 : Int), (c1 : Int), O, D, fillTo ((zs.drop 24).take 8) 8 (k + 1), zs.drop 32⟩ : Chk).cs A2 200 cap2) 29 ∧ Blk w' w.heap.size (chk0.cs none 0 0) 29 ∧ ChkV w' (fun b => w.heap.size < b ∧ ¬ b = nb) A2 200 cap2 (zs.drop 32) ∧ Keeps None wb w') := by
              rintro w' rfl
              have ks := (Keeps.refl (fun b => b = nb) wr).setCell ⟨nb, 4 + k, none⟩ (.int .u8 z) (fun _ => rfl)
              refine ⟨?_, HR.out.setOther _ _ (Nat.ne_of_lt RW.out), HM.out.keeps ks (fun b hb e => hb.2 e), HK.out.trans ks (fun _ h => h) (fun b hb e => absurd e (by have := NBL.out; omega))⟩
              have h := HB.out.set (4 + k) (.int .u8 z)
              rw [Chk.cs_set _ _ _ _ _ (by show k < (fillTo _ _ _).length; rw [fillTo_len HD.out hk8]; exact hlt), ← hz, ← getD_drop, ← getD_take8 hlt, fillTo_set HD.out hlt] at h
              rw [← hz, ← getD_drop, ← getD_take8 hlt]
              exact h
            clear HB HR HM HK hz
            go_wp2
            go_roundw
            case rel =>
              obtain ⟨r1, r2, r3, r4⟩ := B2.out _ rfl
              exact ⟨k + 1, by omega, by go_num, r1, r2, r3, r4⟩
            case measure => simp [intOf]; omega
          · obtain rfl : k = 8 := by omega
            rw [fillTo_all HD.out] at HB
            obtain ⟨E, hE⟩ : ∃ E : Chk, chkR zs O D = E := ⟨_, rfl⟩
            have GD : Hid (getChk zs = if chkL E = zs then (E, true) else (chk0, false)) := by rw [← hE]; exact GC.out
            have DO : Hid E.ok := by rw [← hE]; exact COK.out
            have EM : Hid (E.mid = zs.drop 32) := by rw [← hE]; exact Lib.hid rfl
            have BD : Hid (Blk wr nb (E.cs A2 200 cap2) 29) := by
              have h := HB.out
              rw [← HC0.out, ← HC1.out, show (⟨zs.getD 0 0, zs.getD 1 0, O, D, (zs.drop 24).take 8, zs.drop 32⟩ : Chk) = chkR zs O D from rfl, hE] at h
              exact h
            clear HB GC COK hE hlt
            have PUT : Hid (∀ w A cap, Bs w A 200 cap (zs.drop 32) → Calls Try.prog 15 #[.agg (E.cs A 200 cap).toArray] w (Cloned w (chkL E))) := fun w A cap h => rgputk_any E DO.out A 200 cap w (by rw [EM.out]; exact h)
            have HZr := Lib.hid (CB.out _ HK.out).2
            obtain ⟨sz, hsz⟩ : ∃ x, strOf zs = x := ⟨_, rfl⟩
            obtain ⟨sc, hsc⟩ : ∃ x, strOf (chkL E) = x := ⟨_, rfl⟩
            have EQ : Hid (Byt (chkL E) → (sc.toList == sz.toList) = decide (chkL E = zs)) := fun hb => by rw [← hsz, ← hsc]; exact strOf_beq hb HZr.out.byte
            have HSZ := Lib.hid hsz
            have HSC := Lib.hid hsc
            clear hsz hsc
            go_wp2
            obtain ⟨qS, qh⟩ : ∃ S : World → Prop, ∀ w', S w' ↔ (((Instr.loadAt 29 (.pointer (some ⟨nb, 0, none⟩))).run Try.prog w' = .ok (.agg (E.cs A2 200 cap2).toArray) w') ∧ ((convert 27 9 (.slice (some ⟨gb, off, none⟩) 232 cap)).run Try.prog w' = .ok (.string sz) w')) := ⟨_, fun _ => Iff.rfl⟩
            have qk0 : ∀ x : Memb qS, (Instr.loadAt 29 (.pointer (some ⟨nb, 0, none⟩))).run Try.prog x.at_ = .ok (.agg (E.cs A2 200 cap2).toArray) x.at_ := fun x => ((qh _).1 x.is).1
            have qk1 : ∀ x : Memb qS, (convert 27 9 (.slice (some ⟨gb, off, none⟩) 232 cap)).run Try.prog x.at_ = .ok (.string sz) x.at_ := fun x => ((qh _).1 x.is).2
            have qn : Nonempty (Memb qS) := ⟨⟨(wr).drew, (qh _).2 ⟨run_load_chk BD.out.drew (Chk.cs_len DO.out _ _ _), HSZ.out ▸ run_str HZr.out.drew⟩⟩⟩
            have qH := Lib.hid qh
            clear qh
            refine wp_region_mix2 [1] (InS qS) (by kernel_rfl) (by kernel_rfl) (InS.mk ((qH.out _).2 ⟨run_load_chk BD.out.drew (Chk.cs_len DO.out _ _ _), HSZ.out ▸ run_str HZr.out.drew⟩)) ?_
            refine wpMix2_seg 1 (InS qS) (by kernel_rfl) (by decide) (cl_base [] rfl (by kernel_rfl)) ?_
            simp only [List.take_succ_cons, List.take_zero, List.drop_succ_cons, List.drop_zero]
            repeat (first | go_big_quiet_step (fail) | (go_big_quiet_want; first | refine quiet_load qk0 rfl rfl rfl (by simp only [Act.put, List.setIfInBounds_toArray, List.set_cons_succ, List.set_cons_zero]; rfl) ?_; go_big_quiet_on | refine quiet_conv qk1 rfl rfl rfl (by simp only [Act.put, List.setIfInBounds_toArray, List.set_cons_succ, List.set_cons_zero]; rfl) ?_; go_big_quiet_on))
            refine wpQuiet_nil ?_
            refine wpMix2_eff (by kernel_rfl) ?_
            go_wp2_with fail
            refine (PUT.out _ _ _ HM.out.b.drew).mono ?_
            rintro e w7 ⟨v7, rfl, o7, k7⟩
            obtain ⟨A7, cap7, rfl, bs7, -⟩ := o7.shape
            have BS7 := Lib.hid bs7
            have B7 := Lib.hid (k7.blk BD.out.drew (fun h => h))
            have R7 := Lib.hid (k7.blk HR.out.drew (fun h => h))
            have S7 := Lib.hid (HZr.out.drew.keeps k7 (fun _ _ _ _ _ h => h))
            have M7 := Lib.hid ((HM.out.later (Keeps.refl None wr).drew).later k7)
            have K7 := Lib.hid (HK.out.drew.trans k7 (T := None) (fun _ h => h) (fun _ _ h => h))
            obtain ⟨cl, hcl⟩ : ∃ x, (chkL E).length = x := ⟨_, rfl⟩
            rw [hcl] at BS7 ⊢
            clear o7 bs7 k7 hcl
            go_wp2
            obtain ⟨qL2S, qL2h⟩ : ∃ S : World → Prop, ∀ w', S w' ↔ (((convert 27 9 (.slice A7 cl cap7)).run Try.prog w' = .ok (.string sc) w')) := ⟨_, fun _ => Iff.rfl⟩
            have qL2k0 : ∀ x : Memb qL2S, (convert 27 9 (.slice A7 cl cap7)).run Try.prog x.at_ = .ok (.string sc) x.at_ := fun x => ((qL2h _).1 x.is)
            have qL2n : Nonempty (Memb qL2S) := ⟨⟨_, (qL2h _).2 (HSC.out ▸ run_str BS7.out)⟩⟩
            have qL2H := Lib.hid qL2h
            clear qL2h
            refine MixK2.late (D := InS qL2S) (x := 2) (by kernel_rfl) (cls_cons (InS.mk ((qL2H.out _).2 (HSC.out ▸ run_str BS7.out))) (cls_base (InS.mk ((qH.out _).2 (⟨run_load_chk B7.out (Chk.cs_len DO.out _ _ _), HSZ.out ▸ run_str S7.out⟩))))) ?_
            refine wpMix2_seg 1 (InS qL2S) (by kernel_rfl) (by decide) (cl_one rfl) ?_
            simp only [List.take_succ_cons, List.take_zero, List.drop_succ_cons, List.drop_zero]
            repeat (first | go_big_quiet_step (fail) | (go_big_quiet_want; first | refine quiet_load qk0 rfl rfl rfl (by simp only [Act.put, List.setIfInBounds_toArray, List.set_cons_succ, List.set_cons_zero]; rfl) ?_; go_big_quiet_on | refine quiet_conv qk1 rfl rfl rfl (by simp only [Act.put, List.setIfInBounds_toArray, List.set_cons_succ, List.set_cons_zero]; rfl) ?_; go_big_quiet_on | refine quiet_conv qL2k0 rfl rfl rfl (by simp only [Act.put, List.setIfInBounds_toArray, List.set_cons_succ, List.set_cons_zero]; rfl) ?_; go_big_quiet_on))
            refine wpQuiet_nil ?_
            refine wpMix2_seg 3 (InS qS) (by kernel_rfl) (by decide) (cl_base [2] rfl (by kernel_rfl)) ?_
            simp only [List.take_succ_cons, List.take_zero, List.drop_succ_cons, List.drop_zero]
            repeat (first | go_big_quiet_step (fail) | (go_big_quiet_want; first | refine quiet_load qk0 rfl rfl rfl (by simp only [Act.put, List.setIfInBounds_toArray, List.set_cons_succ, List.set_cons_zero]; rfl) ?_; go_big_quiet_on | refine quiet_conv qk1 rfl rfl rfl (by simp only [Act.put, List.setIfInBounds_toArray, List.set_cons_succ, List.set_cons_zero]; rfl) ?_; go_big_quiet_on | refine quiet_conv qL2k0 rfl rfl rfl (by simp only [Act.put, List.setIfInBounds_toArray, List.set_cons_succ, List.set_cons_zero]; rfl) ?_; go_big_quiet_on))
            refine wpQuiet_nil ?_
            refine wpMix2_nil ?_
            clear qk0 qk1 qn qH qL2k0 qL2n qL2H
            have E2 := EQ.out BS7.out.byte
            have KE := Lib.hid (KB.out.trans K7.out (T := None) (fun _ h => h) (fun _ _ h => h))
            clear EQ HSZ HSC PUT BS7 S7 HZr BD HR HM HK K7
            by_cases hq : chkL E = zs
            · rw [decide_eq_true hq] at E2
              rw [if_pos hq] at GD
              rw [E2]
              go_wp2_with (first | (refine wpList_load_blk (b := nb) (o := 0) (ds := E.cs A2 200 cap2) B7.out (fun j v hv => by rw [Nat.zero_add]; exact hv) rfl rfl rfl Try.underlying29 rfl (by rw [Chk.cs_len DO.out]; exact chk_size) ?_) | (refine wpList_store_blk (b := w.heap.size) (o := 0) (ds := E.cs A2 200 cap2) R7.out (by rw [Chk.cs_len DO.out]; decide) (Chk.cs_one _ _ _ _) rfl rfl rfl rfl (by rw [Chk.cs_len DO.out]; exact chk_size) ?_))
              intro w6 b6 k6
              rw [splice_all (by rw [Chk.cs_len DO.out]; rfl)] at b6
              have B6 := Lib.hid b6
              have M6 := Lib.hid (M7.out.keeps k6 (fun b hb e => by have h1 := hb.1; omega))
              have K6 := Lib.hid (KE.out.trans k6 (T := None) (fun _ h => h) (fun b hb e => absurd e (by omega)))
              clear b6 k6 R7 B7 KE E2 M7
              go_wp2
              refine bodyPost_ret (cell_res rfl _ B6.out Try.underlying29 rfl (by rw [Chk.cs_len DO.out]; exact chk_size) rfl rfl) rfl ?_
              exact ⟨A2, 200, cap2, by rw [GD.out]; rfl, by rw [GD.out, EM.out]; exact M6.out.mono (fun b hb => Nat.le_of_lt hb.1), K6.out⟩
            · rw [decide_eq_false hq] at E2
              rw [if_neg hq] at GD
              rw [E2]
              go_wp2_with (refine wpList_store_blk (b := w.heap.size) (o := 0) (ds := chk0.cs none 0 0) R7.out (by decide) (Chk.cs_one _ _ _ _) rfl rfl rfl (by rw [← chk_zero]; rfl) chk_size ?_)
              intro w6 b6 k6
              rw [splice_all rfl] at b6
              have B6 := Lib.hid b6
              have K6 := Lib.hid (KE.out.trans k6 (T := None) (fun _ h => h) (fun b hb e => absurd e (by omega)))
              clear b6 k6 R7 B7 KE E2 M7
              go_wp2
              refine bodyPost_ret (cell_res rfl _ B6.out Try.underlying29 rfl chk_size rfl rfl) rfl ?_
              exact ⟨none, 0, 0, by rw [GD.out]; rfl, by rw [GD.out]; exact ChkV.nil _ _, K6.out⟩
  ·
    refine wpPs_cons ?_
    try simp only [List.take_succ_cons, List.take_zero, List.drop_succ_cons, List.drop_zero, Nat.reduceSub]
    refine wpMix_eff (by kernel_rfl) ?_
    go_wp2
    first | (refine Exists.elim (⟨_, rfl⟩ : ∃ x, w2.alloc (.cells #[.int .i64 0, .int .i64 0, .int .i64 0, .int .i64 0, .int .u8 0, .int .u8 0, .int .u8 0, .int .u8 0, .int .u8 0, .int .u8 0, .int .u8 0, .int .u8 0, .slice none 0 0] 29) = x) fun wy hwy => ?_; refine Exists.elim (⟨_, rfl⟩ : ∃ x, w2.heap.size = x) fun nb hnb => ?_; rw [hwy, hnb]) | (refine Exists.elim (⟨_, rfl⟩ : ∃ x, wb.drew.alloc (.cells #[.int .i64 0, .int .i64 0, .int .i64 0, .int .i64 0, .int .u8 0, .int .u8 0, .int .u8 0, .int .u8 0, .int .u8 0, .int .u8 0, .int .u8 0, .int .u8 0, .slice none 0 0] 29) = x) fun wy hwy => ?_; refine Exists.elim (⟨_, rfl⟩ : ∃ x, wb.heap.size = x) fun nb hnb => ?_; rw [hwy, hnb]) | (refine Exists.elim (⟨_, rfl⟩ : ∃ x, (wb.alloc (.cells #[.int .i64 0, .int .i64 0, .int .i64 0, .int .i64 0, .int .u8 0, .int .u8 0, .int .u8 0, .int .u8 0, .int .u8 0, .int .u8 0, .int .u8 0, .int .u8 0, .slice none 0 0] 29)).drew = x) fun wy hwy => ?_; refine Exists.elim (⟨_, rfl⟩ : ∃ x, wb.heap.size = x) fun nb hnb => ?_; rw [hwy, hnb])
    have NB : Hid (Blk wy nb (chk0.cs none 0 0) 29) := by rw [← hwy, ← hnb, chk_zero]; first | exact Blk.new w2 (chk0.cs none 0 0) 29 | exact Blk.new wb.drew (chk0.cs none 0 0) 29 | exact (Blk.new wb (chk0.cs none 0 0) 29).drew
    have NBL : Hid (wb.heap.size ≤ nb) := by rw [← hnb]; exact KC.out.size
    have KD : Hid (Keeps None wb wy) := by rw [← hwy]; first | exact KC.out.alloc _ | exact ((Keeps.refl None wb).alloc _).drew
    try have MV : Hid (ChkV wy (fun b => w.heap.size < b ∧ ¬ b = nb) A2 200 cap2 (zs.drop 32)) := by rw [← hwy, ← hnb]; exact (MW.out.mono (fun b hb => ⟨hb.1, Nat.ne_of_lt hb.2⟩)).later ((Keeps.refl None w2).alloc _)
    clear KC hwy hnb
    have KC := KD
    clear KD
    refine MixK.on (InS.mk ((mH.out _).2 (⟨(CB.out _ KC.out).1.1, (CB.out _ KC.out).1.2⟩))) ?_
    refine wpMix_nil ?_
    refine wpPs_nil ?_
    refine wpT_node1 (us := [(0, 20), (21, 1)]) [(8, 3)] [(0, 8), (11, 9), (21, 1)] (by kernel_rfl) ?_
    ·
      refine wpPs_cons ?_
      try simp only [List.take_succ_cons, List.take_zero, List.drop_succ_cons, List.drop_zero, Nat.reduceSub]
      refine wpMix_seg 2 (by kernel_rfl) (by decide) ?_
      simp only [List.take_succ_cons, List.take_zero, List.drop_succ_cons, List.drop_zero, Nat.reduceSub]
      repeat (go_big_quiet_step (fail))
      refine wpQuiet_nil ?_
      refine wpMix_eff (by kernel_rfl) ?_
      go_wp2_with fail
      refine (V1.out _ (((CB.out _ KC.out).2.drop (by decide)).take (by decide))).mono ?_
      rintro e w' ⟨rfl, rfl⟩
      go_wp2
      refine MixK.on (InS.mk ((mH.out _).2 (⟨(CB.out _ KC.out).1.1, (CB.out _ KC.out).1.2⟩))) ?_
      refine wpMix_nil ?_
      refine wpPs_nil ?_
      refine wpT_node1 (us := [(0, 8), (11, 9), (21, 1)]) [(12, 3)] [(0, 8), (11, 1), (15, 5), (21, 1)] (by kernel_rfl) ?_
      ·
        refine wpPs_cons ?_
        try simp only [List.take_succ_cons, List.take_zero, List.drop_succ_cons, List.drop_zero, Nat.reduceSub]
        refine wpMix_seg 2 (by kernel_rfl) (by decide) ?_
        simp only [List.take_succ_cons, List.take_zero, List.drop_succ_cons, List.drop_zero, Nat.reduceSub]
        repeat (go_big_quiet_step (fail))
        refine wpQuiet_nil ?_
        refine wpMix_eff (by kernel_rfl) ?_
        go_wp2_with fail
        refine (V2.out _ (((CB.out _ KC.out).2.drop (by decide)).take (by decide))).mono ?_
        rintro e w' ⟨rfl, rfl⟩
        go_wp2
        refine MixK.on (InS.mk ((mH.out _).2 (⟨(CB.out _ KC.out).1.1, (CB.out _ KC.out).1.2⟩))) ?_
        refine wpMix_nil ?_
        refine wpPs_nil ?_
        refine wpT_leaf (ps := [(0, 8), (11, 1), (15, 5), (21, 1)]) (by kernel_rfl) ?_
        refine wpPs_cons ?_
        try simp only [List.take_succ_cons, List.take_zero, List.drop_succ_cons, List.drop_zero, Nat.reduceSub]
        refine wpMix_seg 8 (by kernel_rfl) (by decide) ?_
        simp only [List.take_succ_cons, List.take_zero, List.drop_succ_cons, List.drop_zero, Nat.reduceSub]
        repeat (go_big_quiet_step (fail))
        refine wpQuiet_nil ?_
        refine wpMix_nil ?_
        refine wpPs_cons ?_
        try simp only [List.take_succ_cons, List.take_zero, List.drop_succ_cons, List.drop_zero, Nat.reduceSub]
        refine wpMix_seg 1 (by kernel_rfl) (by decide) ?_
        simp only [List.take_succ_cons, List.take_zero, List.drop_succ_cons, List.drop_zero, Nat.reduceSub]
        repeat (go_big_quiet_step (fail))
        refine wpQuiet_nil ?_
        refine wpMix_nil ?_
        refine wpPs_cons ?_
        try simp only [List.take_succ_cons, List.take_zero, List.drop_succ_cons, List.drop_zero, Nat.reduceSub]
        refine wpMix_seg 3 (by kernel_rfl) (by decide) ?_
        simp only [List.take_succ_cons, List.take_zero, List.drop_succ_cons, List.drop_zero, Nat.reduceSub]
        repeat (go_big_quiet_step (fail))
        refine wpQuiet_nil ?_
        refine wpMix_eff (by kernel_rfl) ?_
        go_wp2_with (at_builtin; refine Hid.out ?_)
        refine Lib.hid ?_
        refine wpList_append_bs (Own.nil _ _) ((CB.out _ KC.out).2.drop (k := 32) (by decide)) (by simp) (Nat.le_refl _) rfl rfl rfl rfl rfl ?_
        intro v2 w2 o2 kz
        rw [List.nil_append] at o2
        have kx := kz.mono (T := None) (fun i hi e => by simp [Value.ownBlock] at e)
        clear kz
        obtain ⟨A2, cap2, rfl, -, -⟩ := o2.shape
        rw [L200.out] at o2 ⊢
        have M0 := Lib.hid (chkV_own o2).lt
        try have NN := Lib.hid (kx.blk NB.out (fun h => h))
        try have MV : Hid (ChkV w2 (fun b => w.heap.size < b ∧ ¬ b = nb) A2 200 cap2 (zs.drop 32)) := M0.out.mono (fun b hb => by have h1 := NB.out.lt; have h2 := KC.out.size; exact ⟨by omega, by omega⟩)
        try clear NB
        try have NB := NN
        try clear NN
        have MW : Hid (ChkV w2 (fun b => w.heap.size < b ∧ b < w2.heap.size) A2 200 cap2 (zs.drop 32)) := M0.out.mono (fun b hb => by have h2 := KC.out.size; exact ⟨by omega, hb.2⟩)
        have KD := Lib.hid (KC.out.trans kx (T := None) (fun _ h => h) (fun _ _ h => h))
        clear KC kx o2 M0
        have KC := KD
        clear KD
        go_wp2
        refine MixK.on (InS.mk ((mH.out _).2 (⟨(CB.out _ KC.out).1.1, (CB.out _ KC.out).1.2⟩))) ?_
        refine wpMix_seg 1 (by kernel_rfl) (by decide) ?_
        simp only [List.take_succ_cons, List.take_zero, List.drop_succ_cons, List.drop_zero, Nat.reduceSub]
        repeat (go_big_quiet_step (fail))
        refine wpQuiet_nil ?_
        refine wpMix_nil ?_
        refine wpPs_cons ?_
        try simp only [List.take_succ_cons, List.take_zero, List.drop_succ_cons, List.drop_zero, Nat.reduceSub]
        refine wpMix_eff (by kernel_rfl) ?_
        go_wp2_with (refine wpList_store_blk (b := nb) (o := 0) (ds := C.cs A2 200 cap2) NB.out (by rw [CL.out]; decide) (Chk.cs_one _ _ _ _) rfl rfl rfl (congrArg Value.agg (AG.out A2 200 cap2)) (by rw [CL.out]; exact chk_size) ?_)
        intro w3 b3 k3
        rw [splice_all (by rw [CL.out]; rfl)] at b3
        have N3 := Lib.hid b3
        have K3 : Hid (Keeps None wb w3) := KC.out.trans k3 (fun _ h => h) (fun b hb e => absurd e (by have := NBL.out; omega))
        have R3 : Hid (Blk w3 w.heap.size (chk0.cs none 0 0) 29) := K3.out.blk RB.out (fun h => h)
        have M3 : Hid (ChkV w3 (fun b => w.heap.size < b ∧ ¬ b = nb) A2 200 cap2 (zs.drop 32)) := MV.out.keeps k3 (fun b hb e => hb.2 e)
        clear b3 k3 NB KC
        go_wp2
        refine MixK.on (InS.mk ((mH.out _).2 (⟨(CB.out _ K3.out).1.1, (CB.out _ K3.out).1.2⟩))) ?_
        refine wpMix_nil ?_
        refine wpPs_nil ?_
        clear mk0 mk1 mn mH
        have RW : Hid (w.heap.size < nb) := Nat.lt_of_lt_of_le RB.out.lt NBL.out
        clear CL RB KR V1 V2
        go_wp2
        go_loopw [5] (fun iv wr => ∃ k : Nat, k ≤ 8 ∧ iv = .int .i64 (k : Int) ∧ Blk wr nb ((⟨(c0 : Int), (c1 : Int), O, D, fillTo ((zs.drop 24).take 8) 8 k, zs.drop 32⟩ : Chk).cs A2 200 cap2) 29 ∧ Blk wr w.heap.size (chk0.cs none 0 0) 29 ∧ ChkV wr (fun b => w.heap.size < b ∧ ¬ b = nb) A2 200 cap2 (zs.drop 32) ∧ Keeps None wb wr) (fun iv _ => 8 - (intOf iv).toNat)
        case atStart => exact ⟨0, by decide, rfl, by (have h := N3.out; rw [← HCC.out] at h; exact h), R3.out, M3.out, K3.out⟩
        case round =>
          obtain ⟨k, hk8, rfl, hB, hR, hM, hK⟩ := hrel
          have HB := Lib.hid hB
          have HR := Lib.hid hR
          have HM := Lib.hid hM
          have HK := Lib.hid hK
          clear hB hR hM hK N3 R3 M3 K3
          by_cases hlt : k < 8
          · obtain ⟨z, hz⟩ : ∃ z, zs.getD (24 + k) 0 = z := ⟨_, rfl⟩
            have zc := (CB.out _ HK.out).2.cellK (k := 24 + k) (by omega)
            rw [hz] at zc
            have oc := HB.out.cellD (4 + k) _ (Chk.cs_idv _ _ _ _ (fillTo_len HD.out hk8) k hlt)
            have fz := HB.out.frozen (4 + k)
            have B2 : Hid (∀ w', w' = wr.setCell ⟨nb, 4 + k, none⟩ (.int .u8 z) → Blk w' nb ((⟨(c0 : Int), (c1 : Int), O, D, fillTo ((zs.drop 24).take 8) 8 (k + 1), zs.drop 32⟩ : Chk).cs A2 200 cap2) 29 ∧ Blk w' w.heap.size (chk0.cs none 0 0) 29 ∧ ChkV w' (fun b => w.heap.size < b ∧ ¬ b = nb) A2 200 cap2 (zs.drop 32) ∧ Keeps None wb w') := by
              rintro w' rfl
              have ks := (Keeps.refl (fun b => b = nb) wr).setCell ⟨nb, 4 + k, none⟩ (.int .u8 z) (fun _ => rfl)
              refine ⟨?_, HR.out.setOther _ _ (Nat.ne_of_lt RW.out), HM.out.keeps ks (fun b hb e => hb.2 e), HK.out.trans ks (fun _ h => h) (fun b hb e => absurd e (by have := NBL.out; omega))⟩
              have h := HB.out.set (4 + k) (.int .u8 z)
              rw [Chk.cs_set _ _ _ _ _ (by show k < (fillTo _ _ _).length; rw [fillTo_len HD.out hk8]; exact hlt), ← hz, ← getD_drop, ← getD_take8 hlt, fillTo_set HD.out hlt] at h
              rw [← hz, ← getD_drop, ← getD_take8 hlt]
              exact h
            clear HB HR HM HK hz
            go_wp2
            go_roundw
            case rel =>
              obtain ⟨r1, r2, r3, r4⟩ := B2.out _ rfl
              exact ⟨k + 1, by omega, by go_num, r1, r2, r3, r4⟩
            case measure => simp [intOf]; omega
          · obtain rfl : k = 8 := by omega
            rw [fillTo_all HD.out] at HB
            obtain ⟨E, hE⟩ : ∃ E : Chk, chkR zs O D = E := ⟨_, rfl⟩
            have GD : Hid (getChk zs = if chkL E = zs then (E, true) else (chk0, false)) := by rw [← hE]; exact GC.out
            have DO : Hid E.ok := by rw [← hE]; exact COK.out
            have EM : Hid (E.mid = zs.drop 32) := by rw [← hE]; exact Lib.hid rfl
            have BD : Hid (Blk wr nb (E.cs A2 200 cap2) 29) := by
              have h := HB.out
              rw [← HC0.out, ← HC1.out, show (⟨zs.getD 0 0, zs.getD 1 0, O, D, (zs.drop 24).take 8, zs.drop 32⟩ : Chk) = chkR zs O D from rfl, hE] at h
              exact h
            clear HB GC COK hE hlt
            have PUT : Hid (∀ w A cap, Bs w A 200 cap (zs.drop 32) → Calls Try.prog 15 #[.agg (E.cs A 200 cap).toArray] w (Cloned w (chkL E))) := fun w A cap h => rgputk_any E DO.out A 200 cap w (by rw [EM.out]; exact h)
            have HZr := Lib.hid (CB.out _ HK.out).2
            obtain ⟨sz, hsz⟩ : ∃ x, strOf zs = x := ⟨_, rfl⟩
            obtain ⟨sc, hsc⟩ : ∃ x, strOf (chkL E) = x := ⟨_, rfl⟩
            have EQ : Hid (Byt (chkL E) → (sc.toList == sz.toList) = decide (chkL E = zs)) := fun hb => by rw [← hsz, ← hsc]; exact strOf_beq hb HZr.out.byte
            have HSZ := Lib.hid hsz
            have HSC := Lib.hid hsc
            clear hsz hsc
            go_wp2
            obtain ⟨qS, qh⟩ : ∃ S : World → Prop, ∀ w', S w' ↔ (((Instr.loadAt 29 (.pointer (some ⟨nb, 0, none⟩))).run Try.prog w' = .ok (.agg (E.cs A2 200 cap2).toArray) w') ∧ ((convert 27 9 (.slice (some ⟨gb, off, none⟩) 232 cap)).run Try.prog w' = .ok (.string sz) w')) := ⟨_, fun _ => Iff.rfl⟩
            have qk0 : ∀ x : Memb qS, (Instr.loadAt 29 (.pointer (some ⟨nb, 0, none⟩))).run Try.prog x.at_ = .ok (.agg (E.cs A2 200 cap2).toArray) x.at_ := fun x => ((qh _).1 x.is).1
            have qk1 : ∀ x : Memb qS, (convert 27 9 (.slice (some ⟨gb, off, none⟩) 232 cap)).run Try.prog x.at_ = .ok (.string sz) x.at_ := fun x => ((qh _).1 x.is).2
            have qn : Nonempty (Memb qS) := ⟨⟨(wr).drew, (qh _).2 ⟨run_load_chk BD.out.drew (Chk.cs_len DO.out _ _ _), HSZ.out ▸ run_str HZr.out.drew⟩⟩⟩
            have qH := Lib.hid qh
            clear qh
            refine wp_region_mix2 [1] (InS qS) (by kernel_rfl) (by kernel_rfl) (InS.mk ((qH.out _).2 ⟨run_load_chk BD.out.drew (Chk.cs_len DO.out _ _ _), HSZ.out ▸ run_str HZr.out.drew⟩)) ?_
            refine wpMix2_seg 1 (InS qS) (by kernel_rfl) (by decide) (cl_base [] rfl (by kernel_rfl)) ?_
            simp only [List.take_succ_cons, List.take_zero, List.drop_succ_cons, List.drop_zero]
            repeat (first | go_big_quiet_step (fail) | (go_big_quiet_want; first | refine quiet_load qk0 rfl rfl rfl (by simp only [Act.put, List.setIfInBounds_toArray, List.set_cons_succ, List.set_cons_zero]; rfl) ?_; go_big_quiet_on | refine quiet_conv qk1 rfl rfl rfl (by simp only [Act.put, List.setIfInBounds_toArray, List.set_cons_succ, List.set_cons_zero]; rfl) ?_; go_big_quiet_on))
            refine wpQuiet_nil ?_
            refine wpMix2_eff (by kernel_rfl) ?_
            go_wp2_with fail
            refine (PUT.out _ _ _ HM.out.b.drew).mono ?_
            rintro e w7 ⟨v7, rfl, o7, k7⟩
            obtain ⟨A7, cap7, rfl, bs7, -⟩ := o7.shape
            have BS7 := Lib.hid bs7
            have B7 := Lib.hid (k7.blk BD.out.drew (fun h => h))
            have R7 := Lib.hid (k7.blk HR.out.drew (fun h => h))
            have S7 := Lib.hid (HZr.out.drew.keeps k7 (fun _ _ _ _ _ h => h))
            have M7 := Lib.hid ((HM.out.later (Keeps.refl None wr).drew).later k7)
            have K7 := Lib.hid (HK.out.drew.trans k7 (T := None) (fun _ h => h) (fun _ _ h => h))
            obtain ⟨cl, hcl⟩ : ∃ x, (chkL E).length = x := ⟨_, rfl⟩
            rw [hcl] at BS7 ⊢
            clear o7 bs7 k7 hcl
            go_wp2
            obtain ⟨qL2S, qL2h⟩ : ∃ S : World → Prop, ∀ w', S w' ↔ (((convert 27 9 (.slice A7 cl cap7)).run Try.prog w' = .ok (.string sc) w')) := ⟨_, fun _ => Iff.rfl⟩
            have qL2k0 : ∀ x : Memb qL2S, (convert 27 9 (.slice A7 cl cap7)).run Try.prog x.at_ = .ok (.string sc) x.at_ := fun x => ((qL2h _).1 x.is)
            have qL2n : Nonempty (Memb qL2S) := ⟨⟨_, (qL2h _).2 (HSC.out ▸ run_str BS7.out)⟩⟩
            have qL2H := Lib.hid qL2h
            clear qL2h
            refine MixK2.late (D := InS qL2S) (x := 2) (by kernel_rfl) (cls_cons (InS.mk ((qL2H.out _).2 (HSC.out ▸ run_str BS7.out))) (cls_base (InS.mk ((qH.out _).2 (⟨run_load_chk B7.out (Chk.cs_len DO.out _ _ _), HSZ.out ▸ run_str S7.out⟩))))) ?_
            refine wpMix2_seg 1 (InS qL2S) (by kernel_rfl) (by decide) (cl_one rfl) ?_
            simp only [List.take_succ_cons, List.take_zero, List.drop_succ_cons, List.drop_zero]
            repeat (first | go_big_quiet_step (fail) | (go_big_quiet_want; first | refine quiet_load qk0 rfl rfl rfl (by simp only [Act.put, List.setIfInBounds_toArray, List.set_cons_succ, List.set_cons_zero]; rfl) ?_; go_big_quiet_on | refine quiet_conv qk1 rfl rfl rfl (by simp only [Act.put, List.setIfInBounds_toArray, List.set_cons_succ, List.set_cons_zero]; rfl) ?_; go_big_quiet_on | refine quiet_conv qL2k0 rfl rfl rfl (by simp only [Act.put, List.setIfInBounds_toArray, List.set_cons_succ, List.set_cons_zero]; rfl) ?_; go_big_quiet_on))
            refine wpQuiet_nil ?_
            refine wpMix2_seg 3 (InS qS) (by kernel_rfl) (by decide) (cl_base [2] rfl (by kernel_rfl)) ?_
            simp only [List.take_succ_cons, List.take_zero, List.drop_succ_cons, List.drop_zero]
            repeat (first | go_big_quiet_step (fail) | (go_big_quiet_want; first | refine quiet_load qk0 rfl rfl rfl (by simp only [Act.put, List.setIfInBounds_toArray, List.set_cons_succ, List.set_cons_zero]; rfl) ?_; go_big_quiet_on | refine quiet_conv qk1 rfl rfl rfl (by simp only [Act.put, List.setIfInBounds_toArray, List.set_cons_succ, List.set_cons_zero]; rfl) ?_; go_big_quiet_on | refine quiet_conv qL2k0 rfl rfl rfl (by simp only [Act.put, List.setIfInBounds_toArray, List.set_cons_succ, List.set_cons_zero]; rfl) ?_; go_big_quiet_on))
            refine wpQuiet_nil ?_
            refine wpMix2_nil ?_
            clear qk0 qk1 qn qH qL2k0 qL2n qL2H
            have E2 := EQ.out BS7.out.byte
            have KE := Lib.hid (KB.out.trans K7.out (T := None) (fun _ h => h) (fun _ _ h => h))
            clear EQ HSZ HSC PUT BS7 S7 HZr BD HR HM HK K7
            by_cases hq : chkL E = zs
            · rw [decide_eq_true hq] at E2
              rw [if_pos hq] at GD
              rw [E2]
              go_wp2_with (first | (refine wpList_load_blk (b := nb) (o := 0) (ds := E.cs A2 200 cap2) B7.out (fun j v hv => by rw [Nat.zero_add]; exact hv) rfl rfl rfl Try.underlying29 rfl (by rw [Chk.cs_len DO.out]; exact chk_size) ?_) | (refine wpList_store_blk (b := w.heap.size) (o := 0) (ds := E.cs A2 200 cap2) R7.out (by rw [Chk.cs_len DO.out]; decide) (Chk.cs_one _ _ _ _) rfl rfl rfl rfl (by rw [Chk.cs_len DO.out]; exact chk_size) ?_))
              intro w6 b6 k6
              rw [splice_all (by rw [Chk.cs_len DO.out]; rfl)] at b6
              have B6 := Lib.hid b6
              have M6 := Lib.hid (M7.out.keeps k6 (fun b hb e => by have h1 := hb.1; omega))
              have K6 := Lib.hid (KE.out.trans k6 (T := None) (fun _ h => h) (fun b hb e => absurd e (by omega)))
              clear b6 k6 R7 B7 KE E2 M7
              go_wp2
              refine bodyPost_ret (cell_res rfl _ B6.out Try.underlying29 rfl (by rw [Chk.cs_len DO.out]; exact chk_size) rfl rfl) rfl ?_
              exact ⟨A2, 200, cap2, by rw [GD.out]; rfl, by rw [GD.out, EM.out]; exact M6.out.mono (fun b hb => Nat.le_of_lt hb.1), K6.out⟩
            · rw [decide_eq_false hq] at E2
              rw [if_neg hq] at GD
              rw [E2]
              go_wp2_with (refine wpList_store_blk (b := w.heap.size) (o := 0) (ds := chk0.cs none 0 0) R7.out (by decide) (Chk.cs_one _ _ _ _) rfl rfl rfl (by rw [← chk_zero]; rfl) chk_size ?_)
              intro w6 b6 k6
              rw [splice_all rfl] at b6
              have B6 := Lib.hid b6
              have K6 := Lib.hid (KE.out.trans k6 (T := None) (fun _ h => h) (fun b hb e => absurd e (by omega)))
              clear b6 k6 R7 B7 KE E2 M7
              go_wp2
              refine bodyPost_ret (cell_res rfl _ B6.out Try.underlying29 rfl chk_size rfl rfl) rfl ?_
              exact ⟨none, 0, 0, by rw [GD.out]; rfl, by rw [GD.out]; exact ChkV.nil _ _, K6.out⟩
end Go.Proofs.Ytfldgaiiniknpaa
