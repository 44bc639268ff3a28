
/- The walk of ledger's GetCheck. -/
import Derived.Test.YtfldgaiiniknpaaLCuXLg6
import Derived.Test.YtfldgaiiniknpaaLCud
namespace Go.Proofs.Ytfldgaiiniknpaa
open Go.RowKit

/-- A checkpoint's value: its bytes lie where P holds. -/
structure ChkV (w : World) (P : Nat → Prop) (A : Option Addr) (n cap : Nat) (zs : List Int) : Prop where
  b : Bs w A n cap zs
  p : ∀ g off, 0 < n → A = some ⟨g, off, none⟩ → P g ∧ g < w.heap.size
theorem ChkV.nil (w : World) (P : Nat → Prop) : ChkV w P none 0 0 [] := ⟨⟨rfl, Nat.le_refl _, by decide, (fun _ => ⟨rfl, rfl⟩), (fun z hz => by cases hz), fun h => absurd h (Nat.lt_irrefl _)⟩, fun _ _ h => absurd h (Nat.lt_irrefl _)⟩
theorem ChkV.keeps {w w' : World} {P S : Nat → Prop} {A : Option Addr} {n cap : Nat} {zs : List Int} (h : ChkV w P A n cap zs) (k : Keeps S w w') (hS : ∀ b, P b → ¬ S b) : ChkV w' P A n cap zs :=
  ⟨h.b.keeps k (fun b off hn _ e hs => hS b (h.p b off hn e).1 hs), fun g off hn e => ⟨(h.p g off hn e).1, Nat.lt_of_lt_of_le (h.p g off hn e).2 k.size⟩⟩
theorem ChkV.later {w w' : World} {P : Nat → Prop} {A : Option Addr} {n cap : Nat} {zs : List Int} (h : ChkV w P A n cap zs) (k : Keeps None w w') : ChkV w' P A n cap zs := h.keeps k (fun _ _ h => h)
theorem ChkV.mono {w : World} {P Q : Nat → Prop} {A : Option Addr} {n cap : Nat} {zs : List Int} (h : ChkV w P A n cap zs) (hq : ∀ b, P b → Q b) : ChkV w Q A n cap zs := ⟨h.b, fun g off hn e => ⟨hq g (h.p g off hn e).1, (h.p g off hn e).2⟩⟩
theorem ChkV.lt {w : World} {P : Nat → Prop} {A : Option Addr} {n cap : Nat} {zs : List Int} (h : ChkV w P A n cap zs) : ChkV w (fun b => P b ∧ b < w.heap.size) A n cap zs := ⟨h.b, fun g off hn e => ⟨h.p g off hn e, (h.p g off hn e).2⟩⟩
theorem chkV_own {w : World} {B : Nat} {A : Option Addr} {n cap : Nat} {zs : List Int} (h : Own w B (.slice A n cap) zs) : ChkV w (fun b => B ≤ b) A n cap zs := by
  obtain ⟨A', cap', e, hb, hf⟩ := h.shape
  cases e
  refine ⟨hb, fun g off hn e => ⟨(hf g off e).1, ?_⟩⟩
  obtain ⟨b', off', e', hlt, -⟩ := hb.at_ hn
  rw [e] at e'
  cases e'
  exact hlt
theorem chk_size : (Try.prog.info? 29).map (·.size) = some 13 := by kernel_rfl
theorem a8_size : (Try.prog.info? 26).map (·.size) = some 8 := by kernel_rfl
theorem Chk.cs_one (k : Chk) (A : Option Addr) (n cap : Nat) : ∀ v ∈ k.cs A n cap, v.oneCell' = true := by
  intro v hv
  simp only [Chk.cs, List.mem_cons, List.mem_append, List.mem_map, List.not_mem_nil, or_false] at hv
  rcases hv with rfl | rfl | rfl | rfl | ⟨z, -, rfl⟩ | rfl <;> rfl
theorem chk_zero : (#[.int .i64 0, .int .i64 0, .int .i64 0, .int .i64 0, .int .u8 0, .int .u8 0, .int .u8 0, .int .u8 0, .int .u8 0, .int .u8 0, .int .u8 0, .int .u8 0, .slice none 0 0] : Array Value) = (chk0.cs none 0 0).toArray := rfl
theorem built_chk0 (parts : List (Nat × Value)) : (Try.prog).built 29 parts = Instr.fill (fun x => [(0, 1), (1, 1), (2, 1), (3, 1), (4, 8), (12, 1)].toArray[x]?) (chk0.cs none 0 0).toArray parts := by kernel_rfl
theorem built_chk (k : Chk) (h : k.id.length = 8) (A : Option Addr) (n cap : Nat) : (Try.prog).built 29 [(0, .int .i64 k.slot), (1, .int .i64 k.block), (2, .int .i64 k.off), (3, .int .i64 k.dn), (4, .agg (k.id.map (.int .u8)).toArray), (5, .slice A n cap)] = some (k.cs A n cap).toArray := by
  rw [built_chk0]
  have e : chk0.cs none 0 0 = .int .i64 0 :: .int .i64 0 :: .int .i64 0 :: .int .i64 0 :: (List.replicate 8 (.int .u8 0) ++ [.slice none 0 0]) := rfl
  rw [e, fill_splice (off := 0) (size := 1) (ds := [.int .i64 k.slot]) rfl rfl rfl (by simp), fill_splice (off := 1) (size := 1) (ds := [.int .i64 k.block]) rfl rfl rfl (by simp [splice]), fill_splice (off := 2) (size := 1) (ds := [.int .i64 k.off]) rfl rfl rfl (by simp [splice]),
    fill_splice (off := 3) (size := 1) (ds := [.int .i64 k.dn]) rfl rfl rfl (by simp [splice]), fill_splice (off := 4) (size := 8) (ds := k.id.map (.int .u8)) rfl rfl (by simp [h]) (by simp [splice]), fill_splice (off := 12) (size := 1) (ds := [.slice A n cap]) rfl rfl rfl (by simp [splice, h])]
  unfold Instr.fill
  congr 2
  simp [splice, Chk.cs, h]
/-- What GetCheck answers. -/
def GotChk (w : World) (zs : List Int) (e : Ending) (w' : World) : Prop :=
  ∃ A n cap, e = .returned (.tuple #[(getChk zs).1.v A n cap, .bool (getChk zs).2]) ∧ ChkV w' (fun b => w.heap.size ≤ b) A n cap (getChk zs).1.mid ∧ Keeps None w w'
set_option maxRecDepth 100000 in
set_option maxHeartbeats 6400000 in
theorem lggetk_any (A : Option Addr) (n cap : Nat) (zs : List Int) (w : World) (h : Bs w A n cap zs) : Calls Try.prog 10 #[.slice A n cap] w (GotChk w zs) := by
  have hle := h.le
  have hmx := h.max
  by_cases hn : n = 232
  case neg =>
    have d1 : ((n : Int) != 232) = true := by simp; omega
    have GN : Hid (getChk zs = (chk0, false)) := if_neg (fun hh => hn (by rw [← h.len, hh.1]))
    clear h
    go_enter Try.func10, Try.ntmps10
    have NW := Lib.hid (Blk.new w (chk0.cs none 0 0) 29)
    have KW : Hid (Keeps None w (w.alloc (.cells (chk0.cs none 0 0).toArray 29))) := (Keeps.refl None w).alloc _
    rw [← chk_zero] at NW KW
    go_wp2_with (refine wpList_store_blk (b := w.heap.size) (o := 0) (ds := chk0.cs none 0 0) NW.out (by decide) (Chk.cs_one _ _ _ _) rfl rfl rfl (by rw [← chk_zero]; rfl) chk_size ?_)
    intro w' hb hk
    rw [splice_all rfl] at hb
    have HB := Lib.hid hb
    have HK := Lib.hid (KW.out.trans hk (T := None) (fun _ h => h) (fun b hb e => absurd e (by omega)))
    clear hb hk NW KW
    go_wp2
    refine bodyPost_ret (cell_res rfl _ HB.out Try.underlying29 rfl chk_size rfl rfl) rfl ?_
    exact ⟨none, 0, 0, by rw [GN.out]; rfl, by rw [GN.out]; exact ChkV.nil _ _, HK.out⟩
  subst hn
  have HZ := Lib.hid h
  have HL := Lib.hid h.len
  obtain ⟨gb, off, rfl, hgb, hcel⟩ := h.at_ (by decide)
  have z0 := hcel 0 (by decide)
  have z1 := hcel 1 (by decide)
  have a0 := h.byte (zs.getD 0 0) (getD_mem 0 (by rw [h.len]; decide))
  have a1 := h.byte (zs.getD 1 0) (getD_mem 0 (by rw [h.len]; decide))
  obtain ⟨c0, hc0⟩ : ∃ c : Nat, zs.getD 0 0 = c := ⟨(zs.getD 0 0).toNat, by omega⟩
  obtain ⟨c1, hc1⟩ : ∃ c : Nat, zs.getD 1 0 = c := ⟨(zs.getD 1 0).toNat, by omega⟩
  have HC0 := Lib.hid hc0
  have HC1 := Lib.hid hc1
  rw [hc0] at z0 a0
  rw [hc1] at z1 a1
  have V1 := Lib.hid (fun w h => lgsmall_any (some ⟨gb, off + 8, none⟩) (232 - 8) (cap - 8) (zs.drop 8) w h (by decide))
  have V2 := Lib.hid (fun w h => lgsmall_any (some ⟨gb, off + 16, none⟩) (232 - 16) (cap - 16) (zs.drop 16) w h (by decide))
  rw [show numN ((zs.drop 8).take 8) = part8 zs 8 from rfl] at V1
  rw [show numN ((zs.drop 16).take 8) = part8 zs 16 from rfl] at V2
  have CLN := Lib.hid (fun w h => clone_any (some ⟨gb, off + 32, none⟩) (232 - 32) (cap - 32) (zs.drop 32) w h (by decide))
  have L200 : Hid ((zs.drop 32).length = 200) := by show _ = _; rw [List.length_drop, HL.out]
  have LM : Hid (∀ w', Keeps None w w' → (Instr.loadAt 26 (.pointer (some ⟨gb, off + 24, none⟩))).run Try.prog w' = .ok (.agg (((zs.drop 24).take 8).map (.int .u8)).toArray) w') := fun w' k => by
    refine run_loadAt_mid w' gb (off + 24) 26 (((zs.drop 24).take 8).map (.int .u8)) _ (fun j v hv => ?_) Try.underlying26 rfl (by rw [List.length_map, List.length_take, List.length_drop, HL.out]; exact a8_size)
    rw [List.getElem?_map, List.getElem?_take] at hv
    split at hv
    · rw [List.getElem?_drop] at hv
      obtain ⟨z, hz, rfl⟩ := Option.map_eq_some_iff.1 hv
      have hj := (List.getElem?_eq_some_iff.1 hz).1
      rw [HL.out] at hj
      have := ((HZ.out.keeps k (fun _ _ _ _ _ h => h)).at_ (by decide))
      obtain ⟨b', o', e', -, hc⟩ := this
      cases e'
      rw [show off + 24 + j = off + (24 + j) by omega, hc (24 + j) hj, List.getD_eq_getElem?_getD, hz]
      rfl
    · cases hv
  clear h hcel hc0 hc1
  go_enter Try.func10, Try.ntmps10
  go_wp2
  obtain ⟨wb, hwb⟩ : ∃ x, w.alloc (.cells #[.int .i64 0, .int .i64 0, .int .i64 0, .int .i64 0, .int .u8 0, .int .u8 0, .int .u8 0, .int .u8 0, .int .u8 0, .int .u8 0, .int .u8 0, .int .u8 0, .slice none 0 0] 29) = x := ⟨_, rfl⟩
  have RB : Hid (Blk wb w.heap.size (chk0.cs none 0 0) 29) := by rw [← hwb, chk_zero]; exact Blk.new w (chk0.cs none 0 0) 29
  have KB : Hid (Keeps None w wb) := by rw [← hwb]; exact (Keeps.refl None w).alloc _
  have SB : w.heap.size < wb.heap.size := RB.out.lt
  rw [hwb]
  clear hwb
  rw [Nat.add_zero] at z0
  have CB : Hid (∀ w2, Keeps None wb w2 → (w2.cell? ⟨gb, off, none⟩ = some (.int .u8 (c0 : Int)) ∧ w2.cell? ⟨gb, off + 1, none⟩ = some (.int .u8 (c1 : Int))) ∧ (Instr.loadAt 26 (.pointer (some ⟨gb, off + 24, none⟩))).run Try.prog w2 = .ok (.agg (((zs.drop 24).take 8).map (.int .u8)).toArray) w2 ∧ Bs w2 (some ⟨gb, off, none⟩) 232 cap zs) := fun w2 k =>
    have k2 := KB.out.trans k (T := None) (fun _ h => h) (fun _ _ h => h)
    ⟨⟨(k2.cell hgb (fun h => h)).trans z0, (k2.cell hgb (fun h => h)).trans z1⟩, LM.out w2 k2, HZ.out.keeps k2 (fun _ _ _ _ _ h => h)⟩
  have KR := Lib.hid (Keeps.refl None wb)
  clear z0 z1 LM
  have AR := Lib.hid (fun w => run_arr (a := some ⟨gb, off + 24, none⟩) (len := 208) (cap := cap - 24) Try.underlying26 (by decide) w)
  have KC : Hid (Keeps None wb wb.drew) := (Keeps.refl None wb).drew
  obtain ⟨C, hC⟩ : ∃ C : Chk, (⟨(c0 : Int), (c1 : Int), smallN (part8 zs 8), smallN (part8 zs 16), (zs.drop 24).take 8, zs.drop 32⟩ : Chk) = C := ⟨_, rfl⟩
  have HCC : Hid (C = chkP zs) := by show C = _; rw [← hC, ← HC0.out, ← HC1.out]; rfl
  have BU : Hid (∀ A n cap, (Try.prog).built 29 #[(0, .int .i64 (c0 : Int)), (1, .int .i64 (c1 : Int)), (2, .int .i64 (smallN (part8 zs 8))), (3, .int .i64 (smallN (part8 zs 16))), (4, .agg (((zs.drop 24).take 8).map (.int .u8)).toArray), (5, .slice A n cap)].toList = some (C.cs A n cap).toArray) := fun A n cap => by
    rw [← hC]
    exact built_chk ⟨(c0 : Int), (c1 : Int), smallN (part8 zs 8), smallN (part8 zs 16), (zs.drop 24).take 8, zs.drop 32⟩ (by show ((zs.drop 24).take 8).length = 8; rw [List.length_take, List.length_drop, HL.out]; rfl) A n cap
  have OKC : Hid C.ok := by show C.ok; rw [HCC.out]; exact chkP_ok HZ.out.byte HL.out
  have CL : Hid (∀ A n cap, (C.cs A n cap).length = 13) := fun A n cap => Chk.cs_len OKC.out A n cap
  have HMID : Hid (C.mid = zs.drop 32) := by show _ = _; rw [HCC.out]; rfl
  have PUT : Hid (∀ w A cap, Bs w A 200 cap (zs.drop 32) → Calls Try.prog 14 #[.agg (C.cs A 200 cap).toArray] w (Cloned w (chkL C))) := fun w A cap h => lgputk_any C OKC.out A 200 cap w (by rw [HMID.out]; exact h)
  have GC : Hid (getChk zs = if chkL C = zs then (C, true) else (chk0, false)) := by
    show getChk zs = _
    rw [HCC.out]
    unfold getChk
    rw [HL.out]
    simp
  clear hC
  obtain ⟨mS, mh⟩ : ∃ S : World → Prop, ∀ w', S w' ↔ (w'.cell? ⟨gb, off, none⟩ = some (.int .u8 (c0 : Int)) ∧ w'.cell? ⟨gb, off + 1, none⟩ = some (.int .u8 (c1 : Int)) ∧ ((Instr.arrayAt 26 (.slice (some ⟨gb, off + 24, none⟩) 208 (cap - 24))).run Try.prog w' = .ok (.pointer (some ⟨gb, off + 24, none⟩)) w') ∧ ((Instr.loadAt 26 (.pointer (some ⟨gb, off + 24, none⟩))).run Try.prog w' = .ok (.agg (((zs.drop 24).take 8).map (.int .u8)).toArray) w')) := ⟨_, fun _ => Iff.rfl⟩
  have mk0 : ∀ x : Memb mS, x.at_.cell? ⟨gb, off, none⟩ = some (.int .u8 (c0 : Int)) := fun x => ((mh _).1 x.is).1
  have mk1 : ∀ x : Memb mS, x.at_.cell? ⟨gb, off + 1, none⟩ = some (.int .u8 (c1 : Int)) := fun x => ((mh _).1 x.is).2.1
  have mk2 : ∀ x : Memb mS, (Instr.arrayAt 26 (.slice (some ⟨gb, off + 24, none⟩) 208 (cap - 24))).run Try.prog x.at_ = .ok (.pointer (some ⟨gb, off + 24, none⟩)) x.at_ := fun x => ((mh _).1 x.is).2.2.1
  have mk3 : ∀ x : Memb mS, (Instr.loadAt 26 (.pointer (some ⟨gb, off + 24, none⟩))).run Try.prog x.at_ = .ok (.agg (((zs.drop 24).take 8).map (.int .u8)).toArray) x.at_ := fun x => ((mh _).1 x.is).2.2.2
  have mn : Nonempty (Memb mS) := ⟨⟨(wb).drew, (mh _).2 ⟨(CB.out _ KR.out.drew).1.1, (CB.out _ KR.out.drew).1.2, AR.out _, (CB.out _ KR.out.drew).2.1⟩⟩⟩
  have mH := Lib.hid mh
  clear mh
  refine wp_region_mixT [10, 13, 20, 22, 23] (InS mS) 3 24 (by kernel_rfl) (by kernel_rfl) (by kernel_rfl) (by kernel_rfl) (InS.mk ((mH.out _).2 ⟨(CB.out _ KR.out.drew).1.1, (CB.out _ KR.out.drew).1.2, AR.out _, (CB.out _ KR.out.drew).2.1⟩)) ?_
  refine wpT_node2 (us := [(0, 24)]) [(8, 3)] [(0, 8), (11, 13)] [(22, 1)] [(0, 22), (23, 1)] (by kernel_rfl) ?_ ?_
  ·
    refine wpPs_cons ?_
    try simp only [List.take_succ_cons, List.take_zero, List.drop_succ_cons, List.drop_zero, Nat.reduceSub]
    refine wpMix_seg 2 (by kernel_rfl) (by decide) ?_
    simp only [List.take_succ_cons, List.take_zero, List.drop_succ_cons, List.drop_zero, Nat.reduceSub]
    repeat (first | go_big_quiet_step (fail) | (go_big_quiet_want; first | refine quiet_arr mk2 rfl rfl rfl (by simp only [Act.put, List.setIfInBounds_toArray, List.set_cons_succ, List.set_cons_zero]; rfl) ?_; go_big_quiet_on | refine quiet_load mk3 rfl rfl rfl (by simp only [Act.put, List.setIfInBounds_toArray, List.set_cons_succ, List.set_cons_zero]; rfl) ?_; go_big_quiet_on | refine quiet_build (BU.out A2 200 cap2) rfl rfl (by simp [Act.eval]) (by simp only [Act.put, List.setIfInBounds_toArray, List.set_cons_succ, List.set_cons_zero]; rfl) ?_; go_big_quiet_on))
    refine wpQuiet_nil ?_
    refine wpMix_eff (by kernel_rfl) ?_
    go_wp2_with fail
    refine (V1.out _ ((CB.out _ KC.out).2.2.drop (by decide))).mono ?_
    rintro e w' ⟨rfl, rfl⟩
    go_wp2
    refine MixK.on (InS.mk ((mH.out _).2 (⟨(CB.out _ KC.out).1.1, (CB.out _ KC.out).1.2, AR.out _, (CB.out _ KC.out).2.1⟩))) ?_
    refine wpMix_nil ?_
    refine wpPs_nil ?_
    refine wpT_node2 (us := [(0, 8), (11, 13)]) [(11, 3)] [(0, 8), (14, 10)] [(22, 1)] [(0, 8), (11, 11), (23, 1)] (by kernel_rfl) ?_ ?_
    ·
      refine wpPs_cons ?_
      try simp only [List.take_succ_cons, List.take_zero, List.drop_succ_cons, List.drop_zero, Nat.reduceSub]
      refine wpMix_seg 2 (by kernel_rfl) (by decide) ?_
      simp only [List.take_succ_cons, List.take_zero, List.drop_succ_cons, List.drop_zero, Nat.reduceSub]
      repeat (first | go_big_quiet_step (fail) | (go_big_quiet_want; first | refine quiet_arr mk2 rfl rfl rfl (by simp only [Act.put, List.setIfInBounds_toArray, List.set_cons_succ, List.set_cons_zero]; rfl) ?_; go_big_quiet_on | refine quiet_load mk3 rfl rfl rfl (by simp only [Act.put, List.setIfInBounds_toArray, List.set_cons_succ, List.set_cons_zero]; rfl) ?_; go_big_quiet_on | refine quiet_build (BU.out A2 200 cap2) rfl rfl (by simp [Act.eval]) (by simp only [Act.put, List.setIfInBounds_toArray, List.set_cons_succ, List.set_cons_zero]; rfl) ?_; go_big_quiet_on))
      refine wpQuiet_nil ?_
      refine wpMix_eff (by kernel_rfl) ?_
      go_wp2_with fail
      refine (V2.out _ ((CB.out _ KC.out).2.2.drop (by decide))).mono ?_
      rintro e w' ⟨rfl, rfl⟩
      go_wp2
      refine MixK.on (InS.mk ((mH.out _).2 (⟨(CB.out _ KC.out).1.1, (CB.out _ KC.out).1.2, AR.out _, (CB.out _ KC.out).2.1⟩))) ?_
      refine wpMix_nil ?_
      refine wpPs_nil ?_
      refine wpT_node2 (us := [(0, 8), (14, 10)]) [(18, 3)] [(0, 8), (14, 4), (21, 3)] [(22, 1)] [(0, 8), (14, 8), (23, 1)] (by kernel_rfl) ?_ ?_
      ·
        refine wpPs_cons ?_
        try simp only [List.take_succ_cons, List.take_zero, List.drop_succ_cons, List.drop_zero, Nat.reduceSub]
        refine wpMix_seg 2 (by kernel_rfl) (by decide) ?_
        simp only [List.take_succ_cons, List.take_zero, List.drop_succ_cons, List.drop_zero, Nat.reduceSub]
        repeat (first | go_big_quiet_step (fail) | (go_big_quiet_want; first | refine quiet_arr mk2 rfl rfl rfl (by simp only [Act.put, List.setIfInBounds_toArray, List.set_cons_succ, List.set_cons_zero]; rfl) ?_; go_big_quiet_on | refine quiet_load mk3 rfl rfl rfl (by simp only [Act.put, List.setIfInBounds_toArray, List.set_cons_succ, List.set_cons_zero]; rfl) ?_; go_big_quiet_on | refine quiet_build (BU.out A2 200 cap2) rfl rfl (by simp [Act.eval]) (by simp only [Act.put, List.setIfInBounds_toArray, List.set_cons_succ, List.set_cons_zero]; rfl) ?_; go_big_quiet_on))
        refine wpQuiet_nil ?_
        refine wpMix_eff (by kernel_rfl) ?_
        go_wp2_with fail
        refine (CLN.out _ ((CB.out _ KC.out).2.2.drop (by decide))).mono ?_
        rintro e w2 ⟨v2, rfl, o2, kx⟩
        obtain ⟨A2, cap2, rfl, -, -⟩ := o2.shape
        rw [L200.out] at o2 ⊢
        have M0 := Lib.hid (chkV_own o2).lt
        try have NN := Lib.hid (kx.blk NB.out (fun h => h))
        try have MV : Hid (ChkV w2 (fun b => w.heap.size < b ∧ ¬ b = nb) A2 200 cap2 (zs.drop 32)) := M0.out.mono (fun b hb => by have h1 := NB.out.lt; have h2 := KC.out.size; exact ⟨by omega, by omega⟩)
        try clear NB
        try have NB := NN
        try clear NN
        have MW : Hid (ChkV w2 (fun b => w.heap.size < b ∧ b < w2.heap.size) A2 200 cap2 (zs.drop 32)) := M0.out.mono (fun b hb => by have h2 := KC.out.size; exact ⟨by omega, hb.2⟩)
        have KD := Lib.hid (KC.out.trans kx (T := None) (fun _ h => h) (fun _ _ h => h))
        clear KC kx o2 M0
        have KC := KD
        clear KD
        go_wp2
        refine MixK.on (InS.mk ((mH.out _).2 (⟨(CB.out _ KC.out).1.1, (CB.out _ KC.out).1.2, AR.out _, (CB.out _ KC.out).2.1⟩))) ?_
        refine wpMix_nil ?_
        refine wpPs_nil ?_
        refine wpT_leaf (ps := [(0, 8), (14, 4), (21, 3)]) (by kernel_rfl) ?_
        refine wpPs_cons ?_
        try simp only [List.take_succ_cons, List.take_zero, List.drop_succ_cons, List.drop_zero, Nat.reduceSub]
        refine wpMix_seg 8 (by kernel_rfl) (by decide) ?_
        simp only [List.take_succ_cons, List.take_zero, List.drop_succ_cons, List.drop_zero, Nat.reduceSub]
        repeat (first | go_big_quiet_step (fail) | (go_big_quiet_want; first | refine quiet_arr mk2 rfl rfl rfl (by simp only [Act.put, List.setIfInBounds_toArray, List.set_cons_succ, List.set_cons_zero]; rfl) ?_; go_big_quiet_on | refine quiet_load mk3 rfl rfl rfl (by simp only [Act.put, List.setIfInBounds_toArray, List.set_cons_succ, List.set_cons_zero]; rfl) ?_; go_big_quiet_on | refine quiet_build (BU.out A2 200 cap2) rfl rfl (by simp [Act.eval]) (by simp only [Act.put, List.setIfInBounds_toArray, List.set_cons_succ, List.set_cons_zero]; rfl) ?_; go_big_quiet_on))
        refine wpQuiet_nil ?_
        refine wpMix_nil ?_
        refine wpPs_cons ?_
        try simp only [List.take_succ_cons, List.take_zero, List.drop_succ_cons, List.drop_zero, Nat.reduceSub]
        refine wpMix_seg 4 (by kernel_rfl) (by decide) ?_
        simp only [List.take_succ_cons, List.take_zero, List.drop_succ_cons, List.drop_zero, Nat.reduceSub]
        repeat (first | go_big_quiet_step (fail) | (go_big_quiet_want; first | refine quiet_arr mk2 rfl rfl rfl (by simp only [Act.put, List.setIfInBounds_toArray, List.set_cons_succ, List.set_cons_zero]; rfl) ?_; go_big_quiet_on | refine quiet_load mk3 rfl rfl rfl (by simp only [Act.put, List.setIfInBounds_toArray, List.set_cons_succ, List.set_cons_zero]; rfl) ?_; go_big_quiet_on | refine quiet_build (BU.out A2 200 cap2) rfl rfl (by simp [Act.eval]) (by simp only [Act.put, List.setIfInBounds_toArray, List.set_cons_succ, List.set_cons_zero]; rfl) ?_; go_big_quiet_on))
        refine wpQuiet_nil ?_
        refine wpMix_nil ?_
        refine wpPs_cons ?_
        try simp only [List.take_succ_cons, List.take_zero, List.drop_succ_cons, List.drop_zero, Nat.reduceSub]
        refine wpMix_seg 1 (by kernel_rfl) (by decide) ?_
        simp only [List.take_succ_cons, List.take_zero, List.drop_succ_cons, List.drop_zero, Nat.reduceSub]
        repeat (first | go_big_quiet_step (fail) | (go_big_quiet_want; first | refine quiet_arr mk2 rfl rfl rfl (by simp only [Act.put, List.setIfInBounds_toArray, List.set_cons_succ, List.set_cons_zero]; rfl) ?_; go_big_quiet_on | refine quiet_load mk3 rfl rfl rfl (by simp only [Act.put, List.setIfInBounds_toArray, List.set_cons_succ, List.set_cons_zero]; rfl) ?_; go_big_quiet_on | refine quiet_build (BU.out A2 200 cap2) rfl rfl (by simp [Act.eval]) (by simp only [Act.put, List.setIfInBounds_toArray, List.set_cons_succ, List.set_cons_zero]; rfl) ?_; go_big_quiet_on))
        refine wpQuiet_nil ?_
        refine wpMix_eff (by kernel_rfl) ?_
        go_wp2
        first | (refine Exists.elim (⟨_, rfl⟩ : ∃ x, w2.alloc (.cells #[.int .i64 0, .int .i64 0, .int .i64 0, .int .i64 0, .int .u8 0, .int .u8 0, .int .u8 0, .int .u8 0, .int .u8 0, .int .u8 0, .int .u8 0, .int .u8 0, .slice none 0 0] 29) = x) fun wy hwy => ?_; refine Exists.elim (⟨_, rfl⟩ : ∃ x, w2.heap.size = x) fun nb hnb => ?_; rw [hwy, hnb]) | (refine Exists.elim (⟨_, rfl⟩ : ∃ x, wb.drew.alloc (.cells #[.int .i64 0, .int .i64 0, .int .i64 0, .int .i64 0, .int .u8 0, .int .u8 0, .int .u8 0, .int .u8 0, .int .u8 0, .int .u8 0, .int .u8 0, .int .u8 0, .slice none 0 0] 29) = x) fun wy hwy => ?_; refine Exists.elim (⟨_, rfl⟩ : ∃ x, wb.heap.size = x) fun nb hnb => ?_; rw [hwy, hnb]) | (refine Exists.elim (⟨_, rfl⟩ : ∃ x, (wb.alloc (.cells #[.int .i64 0, .int .i64 0, .int .i64 0, .int .i64 0, .int .u8 0, .int .u8 0, .int .u8 0, .int .u8 0, .int .u8 0, .int .u8 0, .int .u8 0, .int .u8 0, .slice none 0 0] 29)).drew = x) fun wy hwy => ?_; refine Exists.elim (⟨_, rfl⟩ : ∃ x, wb.heap.size = x) fun nb hnb => ?_; rw [hwy, hnb])
        have NB : Hid (Blk wy nb (chk0.cs none 0 0) 29) := by rw [← hwy, ← hnb, chk_zero]; first | exact Blk.new w2 (chk0.cs none 0 0) 29 | exact Blk.new wb.drew (chk0.cs none 0 0) 29 | exact (Blk.new wb (chk0.cs none 0 0) 29).drew
        have NBL : Hid (wb.heap.size ≤ nb) := by rw [← hnb]; exact KC.out.size
        have KD : Hid (Keeps None wb wy) := by rw [← hwy]; first | exact KC.out.alloc _ | exact ((Keeps.refl None wb).alloc _).drew
        try have MV : Hid (ChkV wy (fun b => w.heap.size < b ∧ ¬ b = nb) A2 200 cap2 (zs.drop 32)) := by rw [← hwy, ← hnb]; exact (MW.out.mono (fun b hb => ⟨hb.1, Nat.ne_of_lt hb.2⟩)).later ((Keeps.refl None w2).alloc _)
        clear KC hwy hnb
        have KC := KD
        clear KD
        refine MixK.on (InS.mk ((mH.out _).2 (⟨(CB.out _ KC.out).1.1, (CB.out _ KC.out).1.2, AR.out _, (CB.out _ KC.out).2.1⟩))) ?_
        refine wpMix_eff (by kernel_rfl) ?_
        go_wp2_with (refine wpList_store_blk (b := nb) (o := 0) (ds := C.cs A2 200 cap2) NB.out (by rw [CL.out]; decide) (Chk.cs_one _ _ _ _) rfl rfl rfl rfl (by rw [CL.out]; exact chk_size) ?_)
        intro w3 b3 k3
        rw [splice_all (by rw [CL.out]; rfl)] at b3
        have N3 := Lib.hid b3
        have K3 : Hid (Keeps None wb w3) := KC.out.trans k3 (fun _ h => h) (fun b hb e => absurd e (by have := NBL.out; omega))
        have R3 : Hid (Blk w3 w.heap.size (chk0.cs none 0 0) 29) := K3.out.blk RB.out (fun h => h)
        have M3 : Hid (ChkV w3 (fun b => w.heap.size < b ∧ ¬ b = nb) A2 200 cap2 (zs.drop 32)) := MV.out.keeps k3 (fun b hb e => hb.2 e)
        clear b3 k3 NB KC
        go_wp2
        refine MixK.on (InS.mk ((mH.out _).2 (⟨(CB.out _ K3.out).1.1, (CB.out _ K3.out).1.2, AR.out _, (CB.out _ K3.out).2.1⟩))) ?_
        refine wpMix_nil ?_
        refine wpPs_nil ?_
        clear mk0 mk1 mk2 mk3 mn mH
        go_wp2_with (refine wpList_load_blk (b := nb) (o := 0) (ds := C.cs A2 200 cap2) N3.out (fun j v hv => by rw [Nat.zero_add]; exact hv) rfl rfl rfl Try.underlying29 rfl (by rw [CL.out]; exact chk_size) ?_)
        go_wp2_with fail
        refine (PUT.out _ _ _ M3.out.b).mono ?_
        rintro e w4 ⟨v4, rfl, o4, k4⟩
        obtain ⟨A4, c4, rfl, bs4, -⟩ := o4.shape
        have K4 := Lib.hid (K3.out.trans k4 (T := None) (fun _ h => h) (fun _ _ h => h))
        have N4 := Lib.hid (k4.blk N3.out (fun h => h))
        have R4 := Lib.hid (k4.blk R3.out (fun h => h))
        have M4 := Lib.hid (M3.out.later k4)
        have EQ := Lib.hid (bequal_any _ _ _ _ _ _ _ _ w4 bs4 (CB.out _ K4.out).2.2)
        clear o4 k4 bs4 K3 N3 R3 M3
        go_wp2_with fail
        refine EQ.out.mono ?_
        rintro e w5 ⟨rfl, rfl⟩
        by_cases hq : chkL C = zs
        · rw [decide_eq_true hq]
          rw [if_pos hq] at GC
          clear EQ
          go_wp2_with (first | (refine wpList_load_blk (b := nb) (o := 0) (ds := C.cs A2 200 cap2) N4.out (fun j v hv => by rw [Nat.zero_add]; exact hv) rfl rfl rfl Try.underlying29 rfl (by rw [CL.out]; exact chk_size) ?_) | (refine wpList_store_blk (b := w.heap.size) (o := 0) (ds := C.cs A2 200 cap2) R4.out (by rw [CL.out]; decide) (Chk.cs_one _ _ _ _) rfl rfl rfl rfl (by rw [CL.out]; exact chk_size) ?_))
          intro w6 b6 k6
          rw [splice_all (by rw [CL.out]; rfl)] at b6
          have B6 := Lib.hid b6
          have M6 := Lib.hid (M4.out.keeps k6 (fun b hb e => by have h1 := hb.1; omega))
          have K6 := Lib.hid ((KB.out.trans K4.out (T := None) (fun _ h => h) (fun _ _ h => h)).trans k6 (T := None) (fun _ h => h) (fun b hb e => absurd e (by omega)))
          clear b6 k6 N4 R4 K4 M4
          go_wp2
          refine bodyPost_ret (cell_res rfl _ B6.out Try.underlying29 rfl (by rw [CL.out]; exact chk_size) rfl rfl) rfl ?_
          exact ⟨A2, 200, cap2, by rw [GC.out]; rfl, by rw [GC.out, HMID.out]; exact M6.out.mono (fun b hb => Nat.le_of_lt hb.1), K6.out⟩
        · rw [decide_eq_false hq]
          rw [if_neg hq] at GC
          clear EQ
          go_wp2_with (refine wpList_store_blk (b := w.heap.size) (o := 0) (ds := chk0.cs none 0 0) R4.out (by decide) (Chk.cs_one _ _ _ _) rfl rfl rfl (by rw [← chk_zero]; rfl) chk_size ?_)
          intro w6 b6 k6
          rw [splice_all rfl] at b6
          have B6 := Lib.hid b6
          have K6 := Lib.hid ((KB.out.trans K4.out (T := None) (fun _ h => h) (fun _ _ h => h)).trans k6 (T := None) (fun _ h => h) (fun b hb e => absurd e (by omega)))
          clear b6 k6 N4 R4 K4 M4
          go_wp2
          refine bodyPost_ret (cell_res rfl _ B6.out Try.underlying29 rfl chk_size rfl rfl) rfl ?_
          exact ⟨none, 0, 0, by rw [GC.out]; rfl, by rw [GC.out]; exact ChkV.nil _ _, K6.out⟩
      ·
        refine wpPs_cons ?_
        try simp only [List.take_succ_cons, List.take_zero, List.drop_succ_cons, List.drop_zero, Nat.reduceSub]
        refine wpMix_eff (by kernel_rfl) ?_
        go_wp2
        first | (refine Exists.elim (⟨_, rfl⟩ : ∃ x, w2.alloc (.cells #[.int .i64 0, .int .i64 0, .int .i64 0, .int .i64 0, .int .u8 0, .int .u8 0, .int .u8 0, .int .u8 0, .int .u8 0, .int .u8 0, .int .u8 0, .int .u8 0, .slice none 0 0] 29) = x) fun wy hwy => ?_; refine Exists.elim (⟨_, rfl⟩ : ∃ x, w2.heap.size = x) fun nb hnb => ?_; rw [hwy, hnb]) | (refine Exists.elim (⟨_, rfl⟩ : ∃ x, wb.drew.alloc (.cells #[.int .i64 0, .int .i64 0, .int .i64 0, .int .i64 0, .int .u8 0, .int .u8 0, .int .u8 0, .int .u8 0, .int .u8 0, .int .u8 0, .int .u8 0, .int .u8 0, .slice none 0 0] 29) = x) fun wy hwy => ?_; refine Exists.elim (⟨_, rfl⟩ : ∃ x, wb.heap.size = x) fun nb hnb => ?_; rw [hwy, hnb]) | (refine Exists.elim (⟨_, rfl⟩ : ∃ x, (wb.alloc (.cells #[.int .i64 0, .int .i64 0, .int .i64 0, .int .i64 0, .int .u8 0, .int .u8 0, .int .u8 0, .int .u8 0, .int .u8 0, .int .u8 0, .int .u8 0, .int .u8 0, .slice none 0 0] 29)).drew = x) fun wy hwy => ?_; refine Exists.elim (⟨_, rfl⟩ : ∃ x, wb.heap.size = x) fun nb hnb => ?_; rw [hwy, hnb])
        have NB : Hid (Blk wy nb (chk0.cs none 0 0) 29) := by rw [← hwy, ← hnb, chk_zero]; first | exact Blk.new w2 (chk0.cs none 0 0) 29 | exact Blk.new wb.drew (chk0.cs none 0 0) 29 | exact (Blk.new wb (chk0.cs none 0 0) 29).drew
        have NBL : Hid (wb.heap.size ≤ nb) := by rw [← hnb]; exact KC.out.size
        have KD : Hid (Keeps None wb wy) := by rw [← hwy]; first | exact KC.out.alloc _ | exact ((Keeps.refl None wb).alloc _).drew
        try have MV : Hid (ChkV wy (fun b => w.heap.size < b ∧ ¬ b = nb) A2 200 cap2 (zs.drop 32)) := by rw [← hwy, ← hnb]; exact (MW.out.mono (fun b hb => ⟨hb.1, Nat.ne_of_lt hb.2⟩)).later ((Keeps.refl None w2).alloc _)
        clear KC hwy hnb
        have KC := KD
        clear KD
        refine MixK.on (InS.mk ((mH.out _).2 (⟨(CB.out _ KC.out).1.1, (CB.out _ KC.out).1.2, AR.out _, (CB.out _ KC.out).2.1⟩))) ?_
        refine wpMix_nil ?_
        refine wpPs_nil ?_
        refine wpT_leaf (ps := [(0, 8), (14, 8), (23, 1)]) (by kernel_rfl) ?_
        refine wpPs_cons ?_
        try simp only [List.take_succ_cons, List.take_zero, List.drop_succ_cons, List.drop_zero, Nat.reduceSub]
        refine wpMix_seg 8 (by kernel_rfl) (by decide) ?_
        simp only [List.take_succ_cons, List.take_zero, List.drop_succ_cons, List.drop_zero, Nat.reduceSub]
        repeat (first | go_big_quiet_step (fail) | (go_big_quiet_want; first | refine quiet_arr mk2 rfl rfl rfl (by simp only [Act.put, List.setIfInBounds_toArray, List.set_cons_succ, List.set_cons_zero]; rfl) ?_; go_big_quiet_on | refine quiet_load mk3 rfl rfl rfl (by simp only [Act.put, List.setIfInBounds_toArray, List.set_cons_succ, List.set_cons_zero]; rfl) ?_; go_big_quiet_on | refine quiet_build (BU.out A2 200 cap2) rfl rfl (by simp [Act.eval]) (by simp only [Act.put, List.setIfInBounds_toArray, List.set_cons_succ, List.set_cons_zero]; rfl) ?_; go_big_quiet_on))
        refine wpQuiet_nil ?_
        refine wpMix_nil ?_
        refine wpPs_cons ?_
        try simp only [List.take_succ_cons, List.take_zero, List.drop_succ_cons, List.drop_zero, Nat.reduceSub]
        refine wpMix_seg 6 (by kernel_rfl) (by decide) ?_
        simp only [List.take_succ_cons, List.take_zero, List.drop_succ_cons, List.drop_zero, Nat.reduceSub]
        repeat (first | go_big_quiet_step (fail) | (go_big_quiet_want; first | refine quiet_arr mk2 rfl rfl rfl (by simp only [Act.put, List.setIfInBounds_toArray, List.set_cons_succ, List.set_cons_zero]; rfl) ?_; go_big_quiet_on | refine quiet_load mk3 rfl rfl rfl (by simp only [Act.put, List.setIfInBounds_toArray, List.set_cons_succ, List.set_cons_zero]; rfl) ?_; go_big_quiet_on | refine quiet_build (BU.out A2 200 cap2) rfl rfl (by simp [Act.eval]) (by simp only [Act.put, List.setIfInBounds_toArray, List.set_cons_succ, List.set_cons_zero]; rfl) ?_; go_big_quiet_on))
        refine wpQuiet_nil ?_
        refine wpMix_eff (by kernel_rfl) ?_
        go_wp2_with fail
        refine (CLN.out _ ((CB.out _ KC.out).2.2.drop (by decide))).mono ?_
        rintro e w2 ⟨v2, rfl, o2, kx⟩
        obtain ⟨A2, cap2, rfl, -, -⟩ := o2.shape
        rw [L200.out] at o2 ⊢
        have M0 := Lib.hid (chkV_own o2).lt
        try have NN := Lib.hid (kx.blk NB.out (fun h => h))
        try have MV : Hid (ChkV w2 (fun b => w.heap.size < b ∧ ¬ b = nb) A2 200 cap2 (zs.drop 32)) := M0.out.mono (fun b hb => by have h1 := NB.out.lt; have h2 := KC.out.size; exact ⟨by omega, by omega⟩)
        try clear NB
        try have NB := NN
        try clear NN
        have MW : Hid (ChkV w2 (fun b => w.heap.size < b ∧ b < w2.heap.size) A2 200 cap2 (zs.drop 32)) := M0.out.mono (fun b hb => by have h2 := KC.out.size; exact ⟨by omega, hb.2⟩)
        have KD := Lib.hid (KC.out.trans kx (T := None) (fun _ h => h) (fun _ _ h => h))
        clear KC kx o2 M0
        have KC := KD
        clear KD
        go_wp2
        refine MixK.on (InS.mk ((mH.out _).2 (⟨(CB.out _ KC.out).1.1, (CB.out _ KC.out).1.2, AR.out _, (CB.out _ KC.out).2.1⟩))) ?_
        refine wpMix_seg 1 (by kernel_rfl) (by decide) ?_
        simp only [List.take_succ_cons, List.take_zero, List.drop_succ_cons, List.drop_zero, Nat.reduceSub]
        repeat (first | go_big_quiet_step (fail) | (go_big_quiet_want; first | refine quiet_arr mk2 rfl rfl rfl (by simp only [Act.put, List.setIfInBounds_toArray, List.set_cons_succ, List.set_cons_zero]; rfl) ?_; go_big_quiet_on | refine quiet_load mk3 rfl rfl rfl (by simp only [Act.put, List.setIfInBounds_toArray, List.set_cons_succ, List.set_cons_zero]; rfl) ?_; go_big_quiet_on | refine quiet_build (BU.out A2 200 cap2) rfl rfl (by simp [Act.eval]) (by simp only [Act.put, List.setIfInBounds_toArray, List.set_cons_succ, List.set_cons_zero]; rfl) ?_; go_big_quiet_on))
        refine wpQuiet_nil ?_
        refine wpMix_nil ?_
        refine wpPs_cons ?_
        try simp only [List.take_succ_cons, List.take_zero, List.drop_succ_cons, List.drop_zero, Nat.reduceSub]
        refine wpMix_eff (by kernel_rfl) ?_
        go_wp2_with (refine wpList_store_blk (b := nb) (o := 0) (ds := C.cs A2 200 cap2) NB.out (by rw [CL.out]; decide) (Chk.cs_one _ _ _ _) rfl rfl rfl rfl (by rw [CL.out]; exact chk_size) ?_)
        intro w3 b3 k3
        rw [splice_all (by rw [CL.out]; rfl)] at b3
        have N3 := Lib.hid b3
        have K3 : Hid (Keeps None wb w3) := KC.out.trans k3 (fun _ h => h) (fun b hb e => absurd e (by have := NBL.out; omega))
        have R3 : Hid (Blk w3 w.heap.size (chk0.cs none 0 0) 29) := K3.out.blk RB.out (fun h => h)
        have M3 : Hid (ChkV w3 (fun b => w.heap.size < b ∧ ¬ b = nb) A2 200 cap2 (zs.drop 32)) := MV.out.keeps k3 (fun b hb e => hb.2 e)
        clear b3 k3 NB KC
        go_wp2
        refine MixK.on (InS.mk ((mH.out _).2 (⟨(CB.out _ K3.out).1.1, (CB.out _ K3.out).1.2, AR.out _, (CB.out _ K3.out).2.1⟩))) ?_
        refine wpMix_nil ?_
        refine wpPs_nil ?_
        clear mk0 mk1 mk2 mk3 mn mH
        go_wp2_with (refine wpList_load_blk (b := nb) (o := 0) (ds := C.cs A2 200 cap2) N3.out (fun j v hv => by rw [Nat.zero_add]; exact hv) rfl rfl rfl Try.underlying29 rfl (by rw [CL.out]; exact chk_size) ?_)
        go_wp2_with fail
        refine (PUT.out _ _ _ M3.out.b).mono ?_
        rintro e w4 ⟨v4, rfl, o4, k4⟩
        obtain ⟨A4, c4, rfl, bs4, -⟩ := o4.shape
        have K4 := Lib.hid (K3.out.trans k4 (T := None) (fun _ h => h) (fun _ _ h => h))
        have N4 := Lib.hid (k4.blk N3.out (fun h => h))
        have R4 := Lib.hid (k4.blk R3.out (fun h => h))
        have M4 := Lib.hid (M3.out.later k4)
        have EQ := Lib.hid (bequal_any _ _ _ _ _ _ _ _ w4 bs4 (CB.out _ K4.out).2.2)
        clear o4 k4 bs4 K3 N3 R3 M3
        go_wp2_with fail
        refine EQ.out.mono ?_
        rintro e w5 ⟨rfl, rfl⟩
        by_cases hq : chkL C = zs
        · rw [decide_eq_true hq]
          rw [if_pos hq] at GC
          clear EQ
          go_wp2_with (first | (refine wpList_load_blk (b := nb) (o := 0) (ds := C.cs A2 200 cap2) N4.out (fun j v hv => by rw [Nat.zero_add]; exact hv) rfl rfl rfl Try.underlying29 rfl (by rw [CL.out]; exact chk_size) ?_) | (refine wpList_store_blk (b := w.heap.size) (o := 0) (ds := C.cs A2 200 cap2) R4.out (by rw [CL.out]; decide) (Chk.cs_one _ _ _ _) rfl rfl rfl rfl (by rw [CL.out]; exact chk_size) ?_))
          intro w6 b6 k6
          rw [splice_all (by rw [CL.out]; rfl)] at b6
          have B6 := Lib.hid b6
          have M6 := Lib.hid (M4.out.keeps k6 (fun b hb e => by have h1 := hb.1; omega))
          have K6 := Lib.hid ((KB.out.trans K4.out (T := None) (fun _ h => h) (fun _ _ h => h)).trans k6 (T := None) (fun _ h => h) (fun b hb e => absurd e (by omega)))
          clear b6 k6 N4 R4 K4 M4
          go_wp2
          refine bodyPost_ret (cell_res rfl _ B6.out Try.underlying29 rfl (by rw [CL.out]; exact chk_size) rfl rfl) rfl ?_
          exact ⟨A2, 200, cap2, by rw [GC.out]; rfl, by rw [GC.out, HMID.out]; exact M6.out.mono (fun b hb => Nat.le_of_lt hb.1), K6.out⟩
        · rw [decide_eq_false hq]
          rw [if_neg hq] at GC
          clear EQ
          go_wp2_with (refine wpList_store_blk (b := w.heap.size) (o := 0) (ds := chk0.cs none 0 0) R4.out (by decide) (Chk.cs_one _ _ _ _) rfl rfl rfl (by rw [← chk_zero]; rfl) chk_size ?_)
          intro w6 b6 k6
          rw [splice_all rfl] at b6
          have B6 := Lib.hid b6
          have K6 := Lib.hid ((KB.out.trans K4.out (T := None) (fun _ h => h) (fun _ _ h => h)).trans k6 (T := None) (fun _ h => h) (fun b hb e => absurd e (by omega)))
          clear b6 k6 N4 R4 K4 M4
          go_wp2
          refine bodyPost_ret (cell_res rfl _ B6.out Try.underlying29 rfl chk_size rfl rfl) rfl ?_
          exact ⟨none, 0, 0, by rw [GC.out]; rfl, by rw [GC.out]; exact ChkV.nil _ _, K6.out⟩
    ·
      refine wpPs_cons ?_
      try simp only [List.take_succ_cons, List.take_zero, List.drop_succ_cons, List.drop_zero, Nat.reduceSub]
      refine wpMix_eff (by kernel_rfl) ?_
      go_wp2
      first | (refine Exists.elim (⟨_, rfl⟩ : ∃ x, w2.alloc (.cells #[.int .i64 0, .int .i64 0, .int .i64 0, .int .i64 0, .int .u8 0, .int .u8 0, .int .u8 0, .int .u8 0, .int .u8 0, .int .u8 0, .int .u8 0, .int .u8 0, .slice none 0 0] 29) = x) fun wy hwy => ?_; refine Exists.elim (⟨_, rfl⟩ : ∃ x, w2.heap.size = x) fun nb hnb => ?_; rw [hwy, hnb]) | (refine Exists.elim (⟨_, rfl⟩ : ∃ x, wb.drew.alloc (.cells #[.int .i64 0, .int .i64 0, .int .i64 0, .int .i64 0, .int .u8 0, .int .u8 0, .int .u8 0, .int .u8 0, .int .u8 0, .int .u8 0, .int .u8 0, .int .u8 0, .slice none 0 0] 29) = x) fun wy hwy => ?_; refine Exists.elim (⟨_, rfl⟩ : ∃ x, wb.heap.size = x) fun nb hnb => ?_; rw [hwy, hnb]) | (refine Exists.elim (⟨_, rfl⟩ : ∃ x, (wb.alloc (.cells #[.int .i64 0, .int .i64 0, .int .i64 0, .int .i64 0, .int .u8 0, .int .u8 0, .int .u8 0, .int .u8 0, .int .u8 0, .int .u8 0, .int .u8 0, .int .u8 0, .slice none 0 0] 29)).drew = x) fun wy hwy => ?_; refine Exists.elim (⟨_, rfl⟩ : ∃ x, wb.heap.size = x) fun nb hnb => ?_; rw [hwy, hnb])
      have NB : Hid (Blk wy nb (chk0.cs none 0 0) 29) := by rw [← hwy, ← hnb, chk_zero]; first | exact Blk.new w2 (chk0.cs none 0 0) 29 | exact Blk.new wb.drew (chk0.cs none 0 0) 29 | exact (Blk.new wb (chk0.cs none 0 0) 29).drew
      have NBL : Hid (wb.heap.size ≤ nb) := by rw [← hnb]; exact KC.out.size
      have KD : Hid (Keeps None wb wy) := by rw [← hwy]; first | exact KC.out.alloc _ | exact ((Keeps.refl None wb).alloc _).drew
      try have MV : Hid (ChkV wy (fun b => w.heap.size < b ∧ ¬ b = nb) A2 200 cap2 (zs.drop 32)) := by rw [← hwy, ← hnb]; exact (MW.out.mono (fun b hb => ⟨hb.1, Nat.ne_of_lt hb.2⟩)).later ((Keeps.refl None w2).alloc _)
      clear KC hwy hnb
      have KC := KD
      clear KD
      refine MixK.on (InS.mk ((mH.out _).2 (⟨(CB.out _ KC.out).1.1, (CB.out _ KC.out).1.2, AR.out _, (CB.out _ KC.out).2.1⟩))) ?_
      refine wpMix_nil ?_
      refine wpPs_nil ?_
      refine wpT_node1 (us := [(0, 8), (11, 11), (23, 1)]) [(11, 3)] [(0, 8), (14, 8), (23, 1)] (by kernel_rfl) ?_
      ·
        refine wpPs_cons ?_
        try simp only [List.take_succ_cons, List.take_zero, List.drop_succ_cons, List.drop_zero, Nat.reduceSub]
        refine wpMix_seg 2 (by kernel_rfl) (by decide) ?_
        simp only [List.take_succ_cons, List.take_zero, List.drop_succ_cons, List.drop_zero, Nat.reduceSub]
        repeat (first | go_big_quiet_step (fail) | (go_big_quiet_want; first | refine quiet_arr mk2 rfl rfl rfl (by simp only [Act.put, List.setIfInBounds_toArray, List.set_cons_succ, List.set_cons_zero]; rfl) ?_; go_big_quiet_on | refine quiet_load mk3 rfl rfl rfl (by simp only [Act.put, List.setIfInBounds_toArray, List.set_cons_succ, List.set_cons_zero]; rfl) ?_; go_big_quiet_on | refine quiet_build (BU.out A2 200 cap2) rfl rfl (by simp [Act.eval]) (by simp only [Act.put, List.setIfInBounds_toArray, List.set_cons_succ, List.set_cons_zero]; rfl) ?_; go_big_quiet_on))
        refine wpQuiet_nil ?_
        refine wpMix_eff (by kernel_rfl) ?_
        go_wp2_with fail
        refine (V2.out _ ((CB.out _ KC.out).2.2.drop (by decide))).mono ?_
        rintro e w' ⟨rfl, rfl⟩
        go_wp2
        refine MixK.on (InS.mk ((mH.out _).2 (⟨(CB.out _ KC.out).1.1, (CB.out _ KC.out).1.2, AR.out _, (CB.out _ KC.out).2.1⟩))) ?_
        refine wpMix_nil ?_
        refine wpPs_nil ?_
        refine wpT_leaf (ps := [(0, 8), (14, 8), (23, 1)]) (by kernel_rfl) ?_
        refine wpPs_cons ?_
        try simp only [List.take_succ_cons, List.take_zero, List.drop_succ_cons, List.drop_zero, Nat.reduceSub]
        refine wpMix_seg 8 (by kernel_rfl) (by decide) ?_
        simp only [List.take_succ_cons, List.take_zero, List.drop_succ_cons, List.drop_zero, Nat.reduceSub]
        repeat (first | go_big_quiet_step (fail) | (go_big_quiet_want; first | refine quiet_arr mk2 rfl rfl rfl (by simp only [Act.put, List.setIfInBounds_toArray, List.set_cons_succ, List.set_cons_zero]; rfl) ?_; go_big_quiet_on | refine quiet_load mk3 rfl rfl rfl (by simp only [Act.put, List.setIfInBounds_toArray, List.set_cons_succ, List.set_cons_zero]; rfl) ?_; go_big_quiet_on | refine quiet_build (BU.out A2 200 cap2) rfl rfl (by simp [Act.eval]) (by simp only [Act.put, List.setIfInBounds_toArray, List.set_cons_succ, List.set_cons_zero]; rfl) ?_; go_big_quiet_on))
        refine wpQuiet_nil ?_
        refine wpMix_nil ?_
        refine wpPs_cons ?_
        try simp only [List.take_succ_cons, List.take_zero, List.drop_succ_cons, List.drop_zero, Nat.reduceSub]
        refine wpMix_seg 6 (by kernel_rfl) (by decide) ?_
        simp only [List.take_succ_cons, List.take_zero, List.drop_succ_cons, List.drop_zero, Nat.reduceSub]
        repeat (first | go_big_quiet_step (fail) | (go_big_quiet_want; first | refine quiet_arr mk2 rfl rfl rfl (by simp only [Act.put, List.setIfInBounds_toArray, List.set_cons_succ, List.set_cons_zero]; rfl) ?_; go_big_quiet_on | refine quiet_load mk3 rfl rfl rfl (by simp only [Act.put, List.setIfInBounds_toArray, List.set_cons_succ, List.set_cons_zero]; rfl) ?_; go_big_quiet_on | refine quiet_build (BU.out A2 200 cap2) rfl rfl (by simp [Act.eval]) (by simp only [Act.put, List.setIfInBounds_toArray, List.set_cons_succ, List.set_cons_zero]; rfl) ?_; go_big_quiet_on))
        refine wpQuiet_nil ?_
        refine wpMix_eff (by kernel_rfl) ?_
        go_wp2_with fail
        refine (CLN.out _ ((CB.out _ KC.out).2.2.drop (by decide))).mono ?_
        rintro e w2 ⟨v2, rfl, o2, kx⟩
        obtain ⟨A2, cap2, rfl, -, -⟩ := o2.shape
        rw [L200.out] at o2 ⊢
        have M0 := Lib.hid (chkV_own o2).lt
        try have NN := Lib.hid (kx.blk NB.out (fun h => h))
        try have MV : Hid (ChkV w2 (fun b => w.heap.size < b ∧ ¬ b = nb) A2 200 cap2 (zs.drop 32)) := M0.out.mono (fun b hb => by have h1 := NB.out.lt; have h2 := KC.out.size; exact ⟨by omega, by omega⟩)
        try clear NB
        try have NB := NN
        try clear NN
        have MW : Hid (ChkV w2 (fun b => w.heap.size < b ∧ b < w2.heap.size) A2 200 cap2 (zs.drop 32)) := M0.out.mono (fun b hb => by have h2 := KC.out.size; exact ⟨by omega, hb.2⟩)
        have KD := Lib.hid (KC.out.trans kx (T := None) (fun _ h => h) (fun _ _ h => h))
        clear KC kx o2 M0
        have KC := KD
        clear KD
        go_wp2
        refine MixK.on (InS.mk ((mH.out _).2 (⟨(CB.out _ KC.out).1.1, (CB.out _ KC.out).1.2, AR.out _, (CB.out _ KC.out).2.1⟩))) ?_
        refine wpMix_seg 1 (by kernel_rfl) (by decide) ?_
        simp only [List.take_succ_cons, List.take_zero, List.drop_succ_cons, List.drop_zero, Nat.reduceSub]
        repeat (first | go_big_quiet_step (fail) | (go_big_quiet_want; first | refine quiet_arr mk2 rfl rfl rfl (by simp only [Act.put, List.setIfInBounds_toArray, List.set_cons_succ, List.set_cons_zero]; rfl) ?_; go_big_quiet_on | refine quiet_load mk3 rfl rfl rfl (by simp only [Act.put, List.setIfInBounds_toArray, List.set_cons_succ, List.set_cons_zero]; rfl) ?_; go_big_quiet_on | refine quiet_build (BU.out A2 200 cap2) rfl rfl (by simp [Act.eval]) (by simp only [Act.put, List.setIfInBounds_toArray, List.set_cons_succ, List.set_cons_zero]; rfl) ?_; go_big_quiet_on))
        refine wpQuiet_nil ?_
        refine wpMix_nil ?_
        refine wpPs_cons ?_
        try simp only [List.take_succ_cons, List.take_zero, List.drop_succ_cons, List.drop_zero, Nat.reduceSub]
        refine wpMix_eff (by kernel_rfl) ?_
        go_wp2_with (refine wpList_store_blk (b := nb) (o := 0) (ds := C.cs A2 200 cap2) NB.out (by rw [CL.out]; decide) (Chk.cs_one _ _ _ _) rfl rfl rfl rfl (by rw [CL.out]; exact chk_size) ?_)
        intro w3 b3 k3
        rw [splice_all (by rw [CL.out]; rfl)] at b3
        have N3 := Lib.hid b3
        have K3 : Hid (Keeps None wb w3) := KC.out.trans k3 (fun _ h => h) (fun b hb e => absurd e (by have := NBL.out; omega))
        have R3 : Hid (Blk w3 w.heap.size (chk0.cs none 0 0) 29) := K3.out.blk RB.out (fun h => h)
        have M3 : Hid (ChkV w3 (fun b => w.heap.size < b ∧ ¬ b = nb) A2 200 cap2 (zs.drop 32)) := MV.out.keeps k3 (fun b hb e => hb.2 e)
        clear b3 k3 NB KC
        go_wp2
        refine MixK.on (InS.mk ((mH.out _).2 (⟨(CB.out _ K3.out).1.1, (CB.out _ K3.out).1.2, AR.out _, (CB.out _ K3.out).2.1⟩))) ?_
        refine wpMix_nil ?_
        refine wpPs_nil ?_
        clear mk0 mk1 mk2 mk3 mn mH
        go_wp2_with (refine wpList_load_blk (b := nb) (o := 0) (ds := C.cs A2 200 cap2) N3.out (fun j v hv => by rw [Nat.zero_add]; exact hv) rfl rfl rfl Try.underlying29 rfl (by rw [CL.out]; exact chk_size) ?_)
        go_wp2_with fail
        refine (PUT.out _ _ _ M3.out.b).mono ?_
        rintro e w4 ⟨v4, rfl, o4, k4⟩
        obtain ⟨A4, c4, rfl, bs4, -⟩ := o4.shape
        have K4 := Lib.hid (K3.out.trans k4 (T := None) (fun _ h => h) (fun _ _ h => h))
        have N4 := Lib.hid (k4.blk N3.out (fun h => h))
        have R4 := Lib.hid (k4.blk R3.out (fun h => h))
        have M4 := Lib.hid (M3.out.later k4)
        have EQ := Lib.hid (bequal_any _ _ _ _ _ _ _ _ w4 bs4 (CB.out _ K4.out).2.2)
        clear o4 k4 bs4 K3 N3 R3 M3
        go_wp2_with fail
        refine EQ.out.mono ?_
        rintro e w5 ⟨rfl, rfl⟩
        by_cases hq : chkL C = zs
        · rw [decide_eq_true hq]
          rw [if_pos hq] at GC
          clear EQ
          go_wp2_with (first | (refine wpList_load_blk (b := nb) (o := 0) (ds := C.cs A2 200 cap2) N4.out (fun j v hv => by rw [Nat.zero_add]; exact hv) rfl rfl rfl Try.underlying29 rfl (by rw [CL.out]; exact chk_size) ?_) | (refine wpList_store_blk (b := w.heap.size) (o := 0) (ds := C.cs A2 200 cap2) R4.out (by rw [CL.out]; decide) (Chk.cs_one _ _ _ _) rfl rfl rfl rfl (by rw [CL.out]; exact chk_size) ?_))
          intro w6 b6 k6
          rw [splice_all (by rw [CL.out]; rfl)] at b6
          have B6 := Lib.hid b6
          have M6 := Lib.hid (M4.out.keeps k6 (fun b hb e => by have h1 := hb.1; omega))
          have K6 := Lib.hid ((KB.out.trans K4.out (T := None) (fun _ h => h) (fun _ _ h => h)).trans k6 (T := None) (fun _ h => h) (fun b hb e => absurd e (by omega)))
          clear b6 k6 N4 R4 K4 M4
          go_wp2
          refine bodyPost_ret (cell_res rfl _ B6.out Try.underlying29 rfl (by rw [CL.out]; exact chk_size) rfl rfl) rfl ?_
          exact ⟨A2, 200, cap2, by rw [GC.out]; rfl, by rw [GC.out, HMID.out]; exact M6.out.mono (fun b hb => Nat.le_of_lt hb.1), K6.out⟩
        · rw [decide_eq_false hq]
          rw [if_neg hq] at GC
          clear EQ
          go_wp2_with (refine wpList_store_blk (b := w.heap.size) (o := 0) (ds := chk0.cs none 0 0) R4.out (by decide) (Chk.cs_one _ _ _ _) rfl rfl rfl (by rw [← chk_zero]; rfl) chk_size ?_)
          intro w6 b6 k6
          rw [splice_all rfl] at b6
          have B6 := Lib.hid b6
          have K6 := Lib.hid ((KB.out.trans K4.out (T := None) (fun _ h => h) (fun _ _ h => h)).trans k6 (T := None) (fun _ h => h) (fun b hb e => absurd e (by omega)))
          clear b6 k6 N4 R4 K4 M4
          go_wp2
          refine bodyPost_ret (cell_res rfl _ B6.out Try.underlying29 rfl chk_size rfl rfl) rfl ?_
          exact ⟨none, 0, 0, by rw [GC.out]; rfl, by rw [GC.out]; exact ChkV.nil _ _, K6.out⟩
  ·
    refine wpPs_cons ?_
    try simp only [List.take_succ_cons, List.take_zero, List.drop_succ_cons, List.drop_zero, Nat.reduceSub]
    refine wpMix_eff (by kernel_rfl) ?_
    go_wp2
    first | (refine Exists.elim (⟨_, rfl⟩ : ∃ x, w2.alloc (.cells #[.int .i64 0, .int .i64 0, .int .i64 0, .int .i64 0, .int .u8 0, .int .u8 0, .int .u8 0, .int .u8 0, .int .u8 0, .int .u8 0, .int .u8 0, .int .u8 0, .slice none 0 0] 29) = x) fun wy hwy => ?_; refine Exists.elim (⟨_, rfl⟩ : ∃ x, w2.heap.size = x) fun nb hnb => ?_; rw [hwy, hnb]) | (refine Exists.elim (⟨_, rfl⟩ : ∃ x, wb.drew.alloc (.cells #[.int .i64 0, .int .i64 0, .int .i64 0, .int .i64 0, .int .u8 0, .int .u8 0, .int .u8 0, .int .u8 0, .int .u8 0, .int .u8 0, .int .u8 0, .int .u8 0, .slice none 0 0] 29) = x) fun wy hwy => ?_; refine Exists.elim (⟨_, rfl⟩ : ∃ x, wb.heap.size = x) fun nb hnb => ?_; rw [hwy, hnb]) | (refine Exists.elim (⟨_, rfl⟩ : ∃ x, (wb.alloc (.cells #[.int .i64 0, .int .i64 0, .int .i64 0, .int .i64 0, .int .u8 0, .int .u8 0, .int .u8 0, .int .u8 0, .int .u8 0, .int .u8 0, .int .u8 0, .int .u8 0, .slice none 0 0] 29)).drew = x) fun wy hwy => ?_; refine Exists.elim (⟨_, rfl⟩ : ∃ x, wb.heap.size = x) fun nb hnb => ?_; rw [hwy, hnb])
    have NB : Hid (Blk wy nb (chk0.cs none 0 0) 29) := by rw [← hwy, ← hnb, chk_zero]; first | exact Blk.new w2 (chk0.cs none 0 0) 29 | exact Blk.new wb.drew (chk0.cs none 0 0) 29 | exact (Blk.new wb (chk0.cs none 0 0) 29).drew
    have NBL : Hid (wb.heap.size ≤ nb) := by rw [← hnb]; exact KC.out.size
    have KD : Hid (Keeps None wb wy) := by rw [← hwy]; first | exact KC.out.alloc _ | exact ((Keeps.refl None wb).alloc _).drew
    try have MV : Hid (ChkV wy (fun b => w.heap.size < b ∧ ¬ b = nb) A2 200 cap2 (zs.drop 32)) := by rw [← hwy, ← hnb]; exact (MW.out.mono (fun b hb => ⟨hb.1, Nat.ne_of_lt hb.2⟩)).later ((Keeps.refl None w2).alloc _)
    clear KC hwy hnb
    have KC := KD
    clear KD
    refine MixK.on (InS.mk ((mH.out _).2 (⟨(CB.out _ KC.out).1.1, (CB.out _ KC.out).1.2, AR.out _, (CB.out _ KC.out).2.1⟩))) ?_
    refine wpMix_nil ?_
    refine wpPs_nil ?_
    refine wpT_node1 (us := [(0, 22), (23, 1)]) [(8, 3)] [(0, 8), (11, 11), (23, 1)] (by kernel_rfl) ?_
    ·
      refine wpPs_cons ?_
      try simp only [List.take_succ_cons, List.take_zero, List.drop_succ_cons, List.drop_zero, Nat.reduceSub]
      refine wpMix_seg 2 (by kernel_rfl) (by decide) ?_
      simp only [List.take_succ_cons, List.take_zero, List.drop_succ_cons, List.drop_zero, Nat.reduceSub]
      repeat (first | go_big_quiet_step (fail) | (go_big_quiet_want; first | refine quiet_arr mk2 rfl rfl rfl (by simp only [Act.put, List.setIfInBounds_toArray, List.set_cons_succ, List.set_cons_zero]; rfl) ?_; go_big_quiet_on | refine quiet_load mk3 rfl rfl rfl (by simp only [Act.put, List.setIfInBounds_toArray, List.set_cons_succ, List.set_cons_zero]; rfl) ?_; go_big_quiet_on | refine quiet_build (BU.out A2 200 cap2) rfl rfl (by simp [Act.eval]) (by simp only [Act.put, List.setIfInBounds_toArray, List.set_cons_succ, List.set_cons_zero]; rfl) ?_; go_big_quiet_on))
      refine wpQuiet_nil ?_
      refine wpMix_eff (by kernel_rfl) ?_
      go_wp2_with fail
      refine (V1.out _ ((CB.out _ KC.out).2.2.drop (by decide))).mono ?_
      rintro e w' ⟨rfl, rfl⟩
      go_wp2
      refine MixK.on (InS.mk ((mH.out _).2 (⟨(CB.out _ KC.out).1.1, (CB.out _ KC.out).1.2, AR.out _, (CB.out _ KC.out).2.1⟩))) ?_
      refine wpMix_nil ?_
      refine wpPs_nil ?_
      refine wpT_node1 (us := [(0, 8), (11, 11), (23, 1)]) [(11, 3)] [(0, 8), (14, 8), (23, 1)] (by kernel_rfl) ?_
      ·
        refine wpPs_cons ?_
        try simp only [List.take_succ_cons, List.take_zero, List.drop_succ_cons, List.drop_zero, Nat.reduceSub]
        refine wpMix_seg 2 (by kernel_rfl) (by decide) ?_
        simp only [List.take_succ_cons, List.take_zero, List.drop_succ_cons, List.drop_zero, Nat.reduceSub]
        repeat (first | go_big_quiet_step (fail) | (go_big_quiet_want; first | refine quiet_arr mk2 rfl rfl rfl (by simp only [Act.put, List.setIfInBounds_toArray, List.set_cons_succ, List.set_cons_zero]; rfl) ?_; go_big_quiet_on | refine quiet_load mk3 rfl rfl rfl (by simp only [Act.put, List.setIfInBounds_toArray, List.set_cons_succ, List.set_cons_zero]; rfl) ?_; go_big_quiet_on | refine quiet_build (BU.out A2 200 cap2) rfl rfl (by simp [Act.eval]) (by simp only [Act.put, List.setIfInBounds_toArray, List.set_cons_succ, List.set_cons_zero]; rfl) ?_; go_big_quiet_on))
        refine wpQuiet_nil ?_
        refine wpMix_eff (by kernel_rfl) ?_
        go_wp2_with fail
        refine (V2.out _ ((CB.out _ KC.out).2.2.drop (by decide))).mono ?_
        rintro e w' ⟨rfl, rfl⟩
        go_wp2
        refine MixK.on (InS.mk ((mH.out _).2 (⟨(CB.out _ KC.out).1.1, (CB.out _ KC.out).1.2, AR.out _, (CB.out _ KC.out).2.1⟩))) ?_
        refine wpMix_nil ?_
        refine wpPs_nil ?_
        refine wpT_leaf (ps := [(0, 8), (14, 8), (23, 1)]) (by kernel_rfl) ?_
        refine wpPs_cons ?_
        try simp only [List.take_succ_cons, List.take_zero, List.drop_succ_cons, List.drop_zero, Nat.reduceSub]
        refine wpMix_seg 8 (by kernel_rfl) (by decide) ?_
        simp only [List.take_succ_cons, List.take_zero, List.drop_succ_cons, List.drop_zero, Nat.reduceSub]
        repeat (first | go_big_quiet_step (fail) | (go_big_quiet_want; first | refine quiet_arr mk2 rfl rfl rfl (by simp only [Act.put, List.setIfInBounds_toArray, List.set_cons_succ, List.set_cons_zero]; rfl) ?_; go_big_quiet_on | refine quiet_load mk3 rfl rfl rfl (by simp only [Act.put, List.setIfInBounds_toArray, List.set_cons_succ, List.set_cons_zero]; rfl) ?_; go_big_quiet_on | refine quiet_build (BU.out A2 200 cap2) rfl rfl (by simp [Act.eval]) (by simp only [Act.put, List.setIfInBounds_toArray, List.set_cons_succ, List.set_cons_zero]; rfl) ?_; go_big_quiet_on))
        refine wpQuiet_nil ?_
        refine wpMix_nil ?_
        refine wpPs_cons ?_
        try simp only [List.take_succ_cons, List.take_zero, List.drop_succ_cons, List.drop_zero, Nat.reduceSub]
        refine wpMix_seg 6 (by kernel_rfl) (by decide) ?_
        simp only [List.take_succ_cons, List.take_zero, List.drop_succ_cons, List.drop_zero, Nat.reduceSub]
        repeat (first | go_big_quiet_step (fail) | (go_big_quiet_want; first | refine quiet_arr mk2 rfl rfl rfl (by simp only [Act.put, List.setIfInBounds_toArray, List.set_cons_succ, List.set_cons_zero]; rfl) ?_; go_big_quiet_on | refine quiet_load mk3 rfl rfl rfl (by simp only [Act.put, List.setIfInBounds_toArray, List.set_cons_succ, List.set_cons_zero]; rfl) ?_; go_big_quiet_on | refine quiet_build (BU.out A2 200 cap2) rfl rfl (by simp [Act.eval]) (by simp only [Act.put, List.setIfInBounds_toArray, List.set_cons_succ, List.set_cons_zero]; rfl) ?_; go_big_quiet_on))
        refine wpQuiet_nil ?_
        refine wpMix_eff (by kernel_rfl) ?_
        go_wp2_with fail
        refine (CLN.out _ ((CB.out _ KC.out).2.2.drop (by decide))).mono ?_
        rintro e w2 ⟨v2, rfl, o2, kx⟩
        obtain ⟨A2, cap2, rfl, -, -⟩ := o2.shape
        rw [L200.out] at o2 ⊢
        have M0 := Lib.hid (chkV_own o2).lt
        try have NN := Lib.hid (kx.blk NB.out (fun h => h))
        try have MV : Hid (ChkV w2 (fun b => w.heap.size < b ∧ ¬ b = nb) A2 200 cap2 (zs.drop 32)) := M0.out.mono (fun b hb => by have h1 := NB.out.lt; have h2 := KC.out.size; exact ⟨by omega, by omega⟩)
        try clear NB
        try have NB := NN
        try clear NN
        have MW : Hid (ChkV w2 (fun b => w.heap.size < b ∧ b < w2.heap.size) A2 200 cap2 (zs.drop 32)) := M0.out.mono (fun b hb => by have h2 := KC.out.size; exact ⟨by omega, hb.2⟩)
        have KD := Lib.hid (KC.out.trans kx (T := None) (fun _ h => h) (fun _ _ h => h))
        clear KC kx o2 M0
        have KC := KD
        clear KD
        go_wp2
        refine MixK.on (InS.mk ((mH.out _).2 (⟨(CB.out _ KC.out).1.1, (CB.out _ KC.out).1.2, AR.out _, (CB.out _ KC.out).2.1⟩))) ?_
        refine wpMix_seg 1 (by kernel_rfl) (by decide) ?_
        simp only [List.take_succ_cons, List.take_zero, List.drop_succ_cons, List.drop_zero, Nat.reduceSub]
        repeat (first | go_big_quiet_step (fail) | (go_big_quiet_want; first | refine quiet_arr mk2 rfl rfl rfl (by simp only [Act.put, List.setIfInBounds_toArray, List.set_cons_succ, List.set_cons_zero]; rfl) ?_; go_big_quiet_on | refine quiet_load mk3 rfl rfl rfl (by simp only [Act.put, List.setIfInBounds_toArray, List.set_cons_succ, List.set_cons_zero]; rfl) ?_; go_big_quiet_on | refine quiet_build (BU.out A2 200 cap2) rfl rfl (by simp [Act.eval]) (by simp only [Act.put, List.setIfInBounds_toArray, List.set_cons_succ, List.set_cons_zero]; rfl) ?_; go_big_quiet_on))
        refine wpQuiet_nil ?_
        refine wpMix_nil ?_
        refine wpPs_cons ?_
        try simp only [List.take_succ_cons, List.take_zero, List.drop_succ_cons, List.drop_zero, Nat.reduceSub]
        refine wpMix_eff (by kernel_rfl) ?_
        go_wp2_with (refine wpList_store_blk (b := nb) (o := 0) (ds := C.cs A2 200 cap2) NB.out (by rw [CL.out]; decide) (Chk.cs_one _ _ _ _) rfl rfl rfl rfl (by rw [CL.out]; exact chk_size) ?_)
        intro w3 b3 k3
        rw [splice_all (by rw [CL.out]; rfl)] at b3
        have N3 := Lib.hid b3
        have K3 : Hid (Keeps None wb w3) := KC.out.trans k3 (fun _ h => h) (fun b hb e => absurd e (by have := NBL.out; omega))
        have R3 : Hid (Blk w3 w.heap.size (chk0.cs none 0 0) 29) := K3.out.blk RB.out (fun h => h)
        have M3 : Hid (ChkV w3 (fun b => w.heap.size < b ∧ ¬ b = nb) A2 200 cap2 (zs.drop 32)) := MV.out.keeps k3 (fun b hb e => hb.2 e)
        clear b3 k3 NB KC
        go_wp2
        refine MixK.on (InS.mk ((mH.out _).2 (⟨(CB.out _ K3.out).1.1, (CB.out _ K3.out).1.2, AR.out _, (CB.out _ K3.out).2.1⟩))) ?_
        refine wpMix_nil ?_
        refine wpPs_nil ?_
        clear mk0 mk1 mk2 mk3 mn mH
        go_wp2_with (refine wpList_load_blk (b := nb) (o := 0) (ds := C.cs A2 200 cap2) N3.out (fun j v hv => by rw [Nat.zero_add]; exact hv) rfl rfl rfl Try.underlying29 rfl (by rw [CL.out]; exact chk_size) ?_)
        go_wp2_with fail
        refine (PUT.out _ _ _ M3.out.b).mono ?_
        rintro e w4 ⟨v4, rfl, o4, k4⟩
        obtain ⟨A4, c4, rfl, bs4, -⟩ := o4.shape
        have K4 := Lib.hid (K3.out.trans k4 (T := None) (fun _ h => h) (fun _ _ h => h))
        have N4 := Lib.hid (k4.blk N3.out (fun h => h))
        have R4 := Lib.hid (k4.blk R3.out (fun h => h))
        have M4 := Lib.hid (M3.out.later k4)
        have EQ := Lib.hid (bequal_any _ _ _ _ _ _ _ _ w4 bs4 (CB.out _ K4.out).2.2)
        clear o4 k4 bs4 K3 N3 R3 M3
        go_wp2_with fail
        refine EQ.out.mono ?_
        rintro e w5 ⟨rfl, rfl⟩
        by_cases hq : chkL C = zs
        · rw [decide_eq_true hq]
          rw [if_pos hq] at GC
          clear EQ
          go_wp2_with (first | (refine wpList_load_blk (b := nb) (o := 0) (ds := C.cs A2 200 cap2) N4.out (fun j v hv => by rw [Nat.zero_add]; exact hv) rfl rfl rfl Try.underlying29 rfl (by rw [CL.out]; exact chk_size) ?_) | (refine wpList_store_blk (b := w.heap.size) (o := 0) (ds := C.cs A2 200 cap2) R4.out (by rw [CL.out]; decide) (Chk.cs_one _ _ _ _) rfl rfl rfl rfl (by rw [CL.out]; exact chk_size) ?_))
          intro w6 b6 k6
          rw [splice_all (by rw [CL.out]; rfl)] at b6
          have B6 := Lib.hid b6
          have M6 := Lib.hid (M4.out.keeps k6 (fun b hb e => by have h1 := hb.1; omega))
          have K6 := Lib.hid ((KB.out.trans K4.out (T := None) (fun _ h => h) (fun _ _ h => h)).trans k6 (T := None) (fun _ h => h) (fun b hb e => absurd e (by omega)))
          clear b6 k6 N4 R4 K4 M4
          go_wp2
          refine bodyPost_ret (cell_res rfl _ B6.out Try.underlying29 rfl (by rw [CL.out]; exact chk_size) rfl rfl) rfl ?_
          exact ⟨A2, 200, cap2, by rw [GC.out]; rfl, by rw [GC.out, HMID.out]; exact M6.out.mono (fun b hb => Nat.le_of_lt hb.1), K6.out⟩
        · rw [decide_eq_false hq]
          rw [if_neg hq] at GC
          clear EQ
          go_wp2_with (refine wpList_store_blk (b := w.heap.size) (o := 0) (ds := chk0.cs none 0 0) R4.out (by decide) (Chk.cs_one _ _ _ _) rfl rfl rfl (by rw [← chk_zero]; rfl) chk_size ?_)
          intro w6 b6 k6
          rw [splice_all rfl] at b6
          have B6 := Lib.hid b6
          have K6 := Lib.hid ((KB.out.trans K4.out (T := None) (fun _ h => h) (fun _ _ h => h)).trans k6 (T := None) (fun _ h => h) (fun b hb e => absurd e (by omega)))
          clear b6 k6 N4 R4 K4 M4
          go_wp2
          refine bodyPost_ret (cell_res rfl _ B6.out Try.underlying29 rfl chk_size rfl rfl) rfl ?_
          exact ⟨none, 0, 0, by rw [GC.out]; rfl, by rw [GC.out]; exact ChkV.nil _ _, K6.out⟩
end Go.Proofs.Ytfldgaiiniknpaa
