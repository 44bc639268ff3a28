/- Texts put together: Lg7, Lg8, Lg9, Lg10, Jp2. -/
import Derived.Test.YtfldgaiiniknpaaLFof
import Derived.Test.YtfldgaiiniknpaaLFod
import Derived.Test.YtfldgaiiniknpaaLFoe

/- The walk of ledger's GetCheck. -/
namespace Go.Proofs.Ytfldgaiiniknpaa
open Go.RowKit

/-- A checkpoint's value: its bytes lie where P holds. -/
structure ChkV (w : World) (P : Nat → Prop) (A : Option Addr) (n cap : Nat) (zs : List Int) : Prop where
  b : Bs w A n cap zs
  p : ∀ g off, 0 < n → A = some ⟨g, off, none⟩ → P g ∧ g < w.heap.size
theorem ChkV.nil (w : World) (P : Nat → Prop) : ChkV w P none 0 0 [] := ⟨⟨rfl, Nat.le_refl _, by decide, (fun _ => ⟨rfl, rfl⟩), (fun z hz => by cases hz), fun h => absurd h (Nat.lt_irrefl _)⟩, fun _ _ h => absurd h (Nat.lt_irrefl _)⟩
theorem ChkV.keeps {w w' : World} {P S : Nat → Prop} {A : Option Addr} {n cap : Nat} {zs : List Int} (h : ChkV w P A n cap zs) (k : Keeps S w w') (hS : ∀ b, P b → ¬ S b) : ChkV w' P A n cap zs :=
  ⟨h.b.keeps k (fun b off hn _ e hs => hS b (h.p b off hn e).1 hs), fun g off hn e => ⟨(h.p g off hn e).1, Nat.lt_of_lt_of_le (h.p g off hn e).2 k.size⟩⟩
theorem ChkV.later {w w' : World} {P : Nat → Prop} {A : Option Addr} {n cap : Nat} {zs : List Int} (h : ChkV w P A n cap zs) (k : Keeps None w w') : ChkV w' P A n cap zs := h.keeps k (fun _ _ h => h)
theorem ChkV.mono {w : World} {P Q : Nat → Prop} {A : Option Addr} {n cap : Nat} {zs : List Int} (h : ChkV w P A n cap zs) (hq : ∀ b, P b → Q b) : ChkV w Q A n cap zs := ⟨h.b, fun g off hn e => ⟨hq g (h.p g off hn e).1, (h.p g off hn e).2⟩⟩
theorem ChkV.lt {w : World} {P : Nat → Prop} {A : Option Addr} {n cap : Nat} {zs : List Int} (h : ChkV w P A n cap zs) : ChkV w (fun b => P b ∧ b < w.heap.size) A n cap zs := ⟨h.b, fun g off hn e => ⟨h.p g off hn e, (h.p g off hn e).2⟩⟩
theorem chkV_own {w : World} {B : Nat} {A : Option Addr} {n cap : Nat} {zs : List Int} (h : Own w B (.slice A n cap) zs) : ChkV w (fun b => B ≤ b) A n cap zs := by
  obtain ⟨A', cap', e, hb, hf⟩ := h.shape
  cases e
  refine ⟨hb, fun g off hn e => ⟨(hf g off e).1, ?_⟩⟩
  obtain ⟨b', off', e', hlt, -⟩ := hb.at_ hn
  rw [e] at e'
  cases e'
  exact hlt
theorem chk_size : (Try.prog.info? 29).map (·.size) = some 13 := by kernel_rfl
theorem a8_size : (Try.prog.info? 26).map (·.size) = some 8 := by kernel_rfl
theorem Chk.cs_one (k : Chk) (A : Option Addr) (n cap : Nat) : ∀ v ∈ k.cs A n cap, v.oneCell' = true := by
  intro v hv
  simp only [Chk.cs, List.mem_cons, List.mem_append, List.mem_map, List.not_mem_nil, or_false] at hv
  rcases hv with rfl | rfl | rfl | rfl | ⟨z, -, rfl⟩ | rfl <;> rfl
theorem chk_zero : (#[.int .i64 0, .int .i64 0, .int .i64 0, .int .i64 0, .int .u8 0, .int .u8 0, .int .u8 0, .int .u8 0, .int .u8 0, .int .u8 0, .int .u8 0, .int .u8 0, .slice none 0 0] : Array Value) = (chk0.cs none 0 0).toArray := rfl
theorem built_chk0 (parts : List (Nat × Value)) : (Try.prog).built 29 parts = Instr.fill (fun x => [(0, 1), (1, 1), (2, 1), (3, 1), (4, 8), (12, 1)].toArray[x]?) (chk0.cs none 0 0).toArray parts := by kernel_rfl
theorem built_chk (k : Chk) (h : k.id.length = 8) (A : Option Addr) (n cap : Nat) : (Try.prog).built 29 [(0, .int .i64 k.slot), (1, .int .i64 k.block), (2, .int .i64 k.off), (3, .int .i64 k.dn), (4, .agg (k.id.map (.int .u8)).toArray), (5, .slice A n cap)] = some (k.cs A n cap).toArray := by
  rw [built_chk0]
  have e : chk0.cs none 0 0 = .int .i64 0 :: .int .i64 0 :: .int .i64 0 :: .int .i64 0 :: (List.replicate 8 (.int .u8 0) ++ [.slice none 0 0]) := rfl
  rw [e, fill_splice (off := 0) (size := 1) (ds := [.int .i64 k.slot]) rfl rfl rfl (by simp), fill_splice (off := 1) (size := 1) (ds := [.int .i64 k.block]) rfl rfl rfl (by simp [splice]), fill_splice (off := 2) (size := 1) (ds := [.int .i64 k.off]) rfl rfl rfl (by simp [splice]),
    fill_splice (off := 3) (size := 1) (ds := [.int .i64 k.dn]) rfl rfl rfl (by simp [splice]), fill_splice (off := 4) (size := 8) (ds := k.id.map (.int .u8)) rfl rfl (by simp [h]) (by simp [splice]), fill_splice (off := 12) (size := 1) (ds := [.slice A n cap]) rfl rfl rfl (by simp [splice, h])]
  unfold Instr.fill
  congr 2
  simp [splice, Chk.cs, h]
/-- What GetCheck answers. -/
def GotChk (w : World) (zs : List Int) (e : Ending) (w' : World) : Prop :=
  ∃ A n cap, e = .returned (.tuple #[(getChk zs).1.v A n cap, .bool (getChk zs).2]) ∧ ChkV w' (fun b => w.heap.size ≤ b) A n cap (getChk zs).1.mid ∧ Keeps None w w'
set_option maxRecDepth 100000 in
set_option maxHeartbeats 6400000 in
theorem lggetk_any (A : Option Addr) (n cap : Nat) (zs : List Int) (w : World) (h : Bs w A n cap zs) : Calls Try.prog 10 #[.slice A n cap] w (GotChk w zs) := by
  have hle := h.le
  have hmx := h.max
  by_cases hn : n = 232
  case neg =>
    have d1 : ((n : Int) != 232) = true := by simp; omega
    have GN : Hid (getChk zs = (chk0, false)) := if_neg (fun hh => hn (by rw [← h.len, hh.1]))
    clear h
    go_enter Try.func10, Try.ntmps10
    have NW := Lib.hid (Blk.new w (chk0.cs none 0 0) 29)
    have KW : Hid (Keeps None w (w.alloc (.cells (chk0.cs none 0 0).toArray 29))) := (Keeps.refl None w).alloc _
    rw [← chk_zero] at NW KW
    go_wp2_with (refine wpList_store_blk (b := w.heap.size) (o := 0) (ds := chk0.cs none 0 0) NW.out (by decide) (Chk.cs_one _ _ _ _) rfl rfl rfl (by rw [← chk_zero]; rfl) chk_size ?_)
    intro w' hb hk
    rw [splice_all rfl] at hb
    have HB := Lib.hid hb
    have HK := Lib.hid (KW.out.trans hk (T := None) (fun _ h => h) (fun b hb e => absurd e (by omega)))
    clear hb hk NW KW
    go_wp2
    refine bodyPost_ret (cell_res rfl _ HB.out Try.underlying29 rfl chk_size rfl rfl) rfl ?_
    exact ⟨none, 0, 0, by rw [GN.out]; rfl, by rw [GN.out]; exact ChkV.nil _ _, HK.out⟩
  subst hn
  have HZ := Lib.hid h
  have HL := Lib.hid h.len
  obtain ⟨gb, off, rfl, hgb, hcel⟩ := h.at_ (by decide)
  have z0 := hcel 0 (by decide)
  have z1 := hcel 1 (by decide)
  have a0 := h.byte (zs.getD 0 0) (getD_mem 0 (by rw [h.len]; decide))
  have a1 := h.byte (zs.getD 1 0) (getD_mem 0 (by rw [h.len]; decide))
  obtain ⟨c0, hc0⟩ : ∃ c : Nat, zs.getD 0 0 = c := ⟨(zs.getD 0 0).toNat, by omega⟩
  obtain ⟨c1, hc1⟩ : ∃ c : Nat, zs.getD 1 0 = c := ⟨(zs.getD 1 0).toNat, by omega⟩
  have HC0 := Lib.hid hc0
  have HC1 := Lib.hid hc1
  rw [hc0] at z0 a0
  rw [hc1] at z1 a1
  have V1 := Lib.hid (fun w h => lgsmall_any (some ⟨gb, off + 8, none⟩) (232 - 8) (cap - 8) (zs.drop 8) w h (by decide))
  have V2 := Lib.hid (fun w h => lgsmall_any (some ⟨gb, off + 16, none⟩) (232 - 16) (cap - 16) (zs.drop 16) w h (by decide))
  rw [show numN ((zs.drop 8).take 8) = part8 zs 8 from rfl] at V1
  rw [show numN ((zs.drop 16).take 8) = part8 zs 16 from rfl] at V2
  have CLN := Lib.hid (fun w h => clone_any (some ⟨gb, off + 32, none⟩) (232 - 32) (cap - 32) (zs.drop 32) w h (by decide))
  have L200 : Hid ((zs.drop 32).length = 200) := by show _ = _; rw [List.length_drop, HL.out]
  have LM : Hid (∀ w', Keeps None w w' → (Instr.loadAt 26 (.pointer (some ⟨gb, off + 24, none⟩))).run Try.prog w' = .ok (.agg (((zs.drop 24).take 8).map (.int .u8)).toArray) w') := fun w' k => by
    refine run_loadAt_mid w' gb (off + 24) 26 (((zs.drop 24).take 8).map (.int .u8)) _ (fun j v hv => ?_) Try.underlying26 rfl (by rw [List.length_map, List.length_take, List.length_drop, HL.out]; exact a8_size)
    rw [List.getElem?_map, List.getElem?_take] at hv
    split at hv
    · rw [List.getElem?_drop] at hv
      obtain ⟨z, hz, rfl⟩ := Option.map_eq_some_iff.1 hv
      have hj := (List.getElem?_eq_some_iff.1 hz).1
      rw [HL.out] at hj
      have := ((HZ.out.keeps k (fun _ _ _ _ _ h => h)).at_ (by decide))
      obtain ⟨b', o', e', -, hc⟩ := this
      cases e'
      rw [show off + 24 + j = off + (24 + j) by omega, hc (24 + j) hj, List.getD_eq_getElem?_getD, hz]
      rfl
    · cases hv
  clear h hcel hc0 hc1
  go_enter Try.func10, Try.ntmps10
  go_wp2
  obtain ⟨wb, hwb⟩ : ∃ x, w.alloc (.cells #[.int .i64 0, .int .i64 0, .int .i64 0, .int .i64 0, .int .u8 0, .int .u8 0, .int .u8 0, .int .u8 0, .int .u8 0, .int .u8 0, .int .u8 0, .int .u8 0, .slice none 0 0] 29) = x := ⟨_, rfl⟩
  have RB : Hid (Blk wb w.heap.size (chk0.cs none 0 0) 29) := by rw [← hwb, chk_zero]; exact Blk.new w (chk0.cs none 0 0) 29
  have KB : Hid (Keeps None w wb) := by rw [← hwb]; exact (Keeps.refl None w).alloc _
  have SB : w.heap.size < wb.heap.size := RB.out.lt
  rw [hwb]
  clear hwb
  rw [Nat.add_zero] at z0
  have CB : Hid (∀ w2, Keeps None wb w2 → (w2.cell? ⟨gb, off, none⟩ = some (.int .u8 (c0 : Int)) ∧ w2.cell? ⟨gb, off + 1, none⟩ = some (.int .u8 (c1 : Int))) ∧ (Instr.loadAt 26 (.pointer (some ⟨gb, off + 24, none⟩))).run Try.prog w2 = .ok (.agg (((zs.drop 24).take 8).map (.int .u8)).toArray) w2 ∧ Bs w2 (some ⟨gb, off, none⟩) 232 cap zs) := fun w2 k =>
    have k2 := KB.out.trans k (T := None) (fun _ h => h) (fun _ _ h => h)
    ⟨⟨(k2.cell hgb (fun h => h)).trans z0, (k2.cell hgb (fun h => h)).trans z1⟩, LM.out w2 k2, HZ.out.keeps k2 (fun _ _ _ _ _ h => h)⟩
  have KR := Lib.hid (Keeps.refl None wb)
  clear z0 z1 LM
  have AR := Lib.hid (fun w => run_arr (a := some ⟨gb, off + 24, none⟩) (len := 208) (cap := cap - 24) Try.underlying26 (by decide) w)
  have KC : Hid (Keeps None wb wb.drew) := (Keeps.refl None wb).drew
  obtain ⟨C, hC⟩ : ∃ C : Chk, (⟨(c0 : Int), (c1 : Int), smallN (part8 zs 8), smallN (part8 zs 16), (zs.drop 24).take 8, zs.drop 32⟩ : Chk) = C := ⟨_, rfl⟩
  have HCC : Hid (C = chkP zs) := by show C = _; rw [← hC, ← HC0.out, ← HC1.out]; rfl
  have BU : Hid (∀ A n cap, (Try.prog).built 29 #[(0, .int .i64 (c0 : Int)), (1, .int .i64 (c1 : Int)), (2, .int .i64 (smallN (part8 zs 8))), (3, .int .i64 (smallN (part8 zs 16))), (4, .agg (((zs.drop 24).take 8).map (.int .u8)).toArray), (5, .slice A n cap)].toList = some (C.cs A n cap).toArray) := fun A n cap => by
    rw [← hC]
    exact built_chk ⟨(c0 : Int), (c1 : Int), smallN (part8 zs 8), smallN (part8 zs 16), (zs.drop 24).take 8, zs.drop 32⟩ (by show ((zs.drop 24).take 8).length = 8; rw [List.length_take, List.length_drop, HL.out]; rfl) A n cap
  have OKC : Hid C.ok := by show C.ok; rw [HCC.out]; exact chkP_ok HZ.out.byte HL.out
  have CL : Hid (∀ A n cap, (C.cs A n cap).length = 13) := fun A n cap => Chk.cs_len OKC.out A n cap
  have HMID : Hid (C.mid = zs.drop 32) := by show _ = _; rw [HCC.out]; rfl
  have PUT : Hid (∀ w A cap, Bs w A 200 cap (zs.drop 32) → Calls Try.prog 14 #[.agg (C.cs A 200 cap).toArray] w (Cloned w (chkL C))) := fun w A cap h => lgputk_any C OKC.out A 200 cap w (by rw [HMID.out]; exact h)
  have GC : Hid (getChk zs = if chkL C = zs then (C, true) else (chk0, false)) := by
    show getChk zs = _
    rw [HCC.out]
    unfold getChk
    rw [HL.out]
    simp
  clear hC
  obtain ⟨mS, mh⟩ : ∃ S : World → Prop, ∀ w', S w' ↔ (w'.cell? ⟨gb, off, none⟩ = some (.int .u8 (c0 : Int)) ∧ w'.cell? ⟨gb, off + 1, none⟩ = some (.int .u8 (c1 : Int)) ∧ ((Instr.arrayAt 26 (.slice (some ⟨gb, off + 24, none⟩) 208 (cap - 24))).run Try.prog w' = .ok (.pointer (some ⟨gb, off + 24, none⟩)) w') ∧ ((Instr.loadAt 26 (.pointer (some ⟨gb, off + 24, none⟩))).run Try.prog w' = .ok (.agg (((zs.drop 24).take 8).map (.int .u8)).toArray) w')) := ⟨_, fun _ => Iff.rfl⟩
  have mk0 : ∀ x : Memb mS, x.at_.cell? ⟨gb, off, none⟩ = some (.int .u8 (c0 : Int)) := fun x => ((mh _).1 x.is).1
  have mk1 : ∀ x : Memb mS, x.at_.cell? ⟨gb, off + 1, none⟩ = some (.int .u8 (c1 : Int)) := fun x => ((mh _).1 x.is).2.1
  have mk2 : ∀ x : Memb mS, (Instr.arrayAt 26 (.slice (some ⟨gb, off + 24, none⟩) 208 (cap - 24))).run Try.prog x.at_ = .ok (.pointer (some ⟨gb, off + 24, none⟩)) x.at_ := fun x => ((mh _).1 x.is).2.2.1
  have mk3 : ∀ x : Memb mS, (Instr.loadAt 26 (.pointer (some ⟨gb, off + 24, none⟩))).run Try.prog x.at_ = .ok (.agg (((zs.drop 24).take 8).map (.int .u8)).toArray) x.at_ := fun x => ((mh _).1 x.is).2.2.2
  have mn : Nonempty (Memb mS) := ⟨⟨(wb).drew, (mh _).2 ⟨(CB.out _ KR.out.drew).1.1, (CB.out _ KR.out.drew).1.2, AR.out _, (CB.out _ KR.out.drew).2.1⟩⟩⟩
  have mH := Lib.hid mh
  clear mh
  refine wp_region_mixT [10, 13, 20, 22, 23] (InS mS) 3 24 (by kernel_rfl) (by kernel_rfl) (by kernel_rfl) (by kernel_rfl) (InS.mk ((mH.out _).2 ⟨(CB.out _ KR.out.drew).1.1, (CB.out _ KR.out.drew).1.2, AR.out _, (CB.out _ KR.out.drew).2.1⟩)) ?_
  refine wpT_node2 (us := [(0, 24)]) [(8, 3)] [(0, 8), (11, 13)] [(22, 1)] [(0, 22), (23, 1)] (by kernel_rfl) ?_ ?_
  ·
    refine wpPs_cons ?_
    try simp only [List.take_succ_cons, List.take_zero, List.drop_succ_cons, List.drop_zero, Nat.reduceSub]
    refine wpMix_seg 2 (by kernel_rfl) (by decide) ?_
    simp only [List.take_succ_cons, List.take_zero, List.drop_succ_cons, List.drop_zero, Nat.reduceSub]
    repeat (first | go_big_quiet_step (fail) | (go_big_quiet_want; first | refine quiet_arr mk2 rfl rfl rfl (by simp only [Act.put, List.setIfInBounds_toArray, List.set_cons_succ, List.set_cons_zero]; rfl) ?_; go_big_quiet_on | refine quiet_load mk3 rfl rfl rfl (by simp only [Act.put, List.setIfInBounds_toArray, List.set_cons_succ, List.set_cons_zero]; rfl) ?_; go_big_quiet_on | refine quiet_build (BU.out A2 200 cap2) rfl rfl (by simp [Act.eval]) (by simp only [Act.put, List.setIfInBounds_toArray, List.set_cons_succ, List.set_cons_zero]; rfl) ?_; go_big_quiet_on))
    refine wpQuiet_nil ?_
    refine wpMix_eff (by kernel_rfl) ?_
    go_wp2_with fail
    refine (V1.out _ ((CB.out _ KC.out).2.2.drop (by decide))).mono ?_
    rintro e w' ⟨rfl, rfl⟩
    go_wp2
    refine MixK.on (InS.mk ((mH.out _).2 (⟨(CB.out _ KC.out).1.1, (CB.out _ KC.out).1.2, AR.out _, (CB.out _ KC.out).2.1⟩))) ?_
    refine wpMix_nil ?_
    refine wpPs_nil ?_
    refine wpT_node2 (us := [(0, 8), (11, 13)]) [(11, 3)] [(0, 8), (14, 10)] [(22, 1)] [(0, 8), (11, 11), (23, 1)] (by kernel_rfl) ?_ ?_
    ·
      refine wpPs_cons ?_
      try simp only [List.take_succ_cons, List.take_zero, List.drop_succ_cons, List.drop_zero, Nat.reduceSub]
      refine wpMix_seg 2 (by kernel_rfl) (by decide) ?_
      simp only [List.take_succ_cons, List.take_zero, List.drop_succ_cons, List.drop_zero, Nat.reduceSub]
      repeat (first | go_big_quiet_step (fail) | (go_big_quiet_want; first | refine quiet_arr mk2 rfl rfl rfl (by simp only [Act.put, List.setIfInBounds_toArray, List.set_cons_succ, List.set_cons_zero]; rfl) ?_; go_big_quiet_on | refine quiet_load mk3 rfl rfl rfl (by simp only [Act.put, List.setIfInBounds_toArray, List.set_cons_succ, List.set_cons_zero]; rfl) ?_; go_big_quiet_on | refine quiet_build (BU.out A2 200 cap2) rfl rfl (by simp [Act.eval]) (by simp only [Act.put, List.setIfInBounds_toArray, List.set_cons_succ, List.set_cons_zero]; rfl) ?_; go_big_quiet_on))
      refine wpQuiet_nil ?_
      refine wpMix_eff (by kernel_rfl) ?_
      go_wp2_with fail
      refine (V2.out _ ((CB.out _ KC.out).2.2.drop (by decide))).mono ?_
      rintro e w' ⟨rfl, rfl⟩
      go_wp2
      refine MixK.on (InS.mk ((mH.out _).2 (⟨(CB.out _ KC.out).1.1, (CB.out _ KC.out).1.2, AR.out _, (CB.out _ KC.out).2.1⟩))) ?_
      refine wpMix_nil ?_
      refine wpPs_nil ?_
      refine wpT_node2 (us := [(0, 8), (14, 10)]) [(18, 3)] [(0, 8), (14, 4), (21, 3)] [(22, 1)] [(0, 8), (14, 8), (23, 1)] (by kernel_rfl) ?_ ?_
      ·
        refine wpPs_cons ?_
        try simp only [List.take_succ_cons, List.take_zero, List.drop_succ_cons, List.drop_zero, Nat.reduceSub]
        refine wpMix_seg 2 (by kernel_rfl) (by decide) ?_
        simp only [List.take_succ_cons, List.take_zero, List.drop_succ_cons, List.drop_zero, Nat.reduceSub]
        repeat (first | go_big_quiet_step (fail) | (go_big_quiet_want; first | refine quiet_arr mk2 rfl rfl rfl (by simp only [Act.put, List.setIfInBounds_toArray, List.set_cons_succ, List.set_cons_zero]; rfl) ?_; go_big_quiet_on | refine quiet_load mk3 rfl rfl rfl (by simp only [Act.put, List.setIfInBounds_toArray, List.set_cons_succ, List.set_cons_zero]; rfl) ?_; go_big_quiet_on | refine quiet_build (BU.out A2 200 cap2) rfl rfl (by simp [Act.eval]) (by simp only [Act.put, List.setIfInBounds_toArray, List.set_cons_succ, List.set_cons_zero]; rfl) ?_; go_big_quiet_on))
        refine wpQuiet_nil ?_
        refine wpMix_eff (by kernel_rfl) ?_
        go_wp2_with fail
        refine (CLN.out _ ((CB.out _ KC.out).2.2.drop (by decide))).mono ?_
        rintro e w2 ⟨v2, rfl, o2, kx⟩
        obtain ⟨A2, cap2, rfl, -, -⟩ := o2.shape
        rw [L200.out] at o2 ⊢
        have M0 := Lib.hid (chkV_own o2).lt
        try have NN := Lib.hid (kx.blk NB.out (fun h => h))
        try have MV : Hid (ChkV w2 (fun b => w.heap.size < b ∧ ¬ b = nb) A2 200 cap2 (zs.drop 32)) := M0.out.mono (fun b hb => by have h1 := NB.out.lt; have h2 := KC.out.size; exact ⟨by omega, by omega⟩)
        try clear NB
        try have NB := NN
        try clear NN
        have MW : Hid (ChkV w2 (fun b => w.heap.size < b ∧ b < w2.heap.size) A2 200 cap2 (zs.drop 32)) := M0.out.mono (fun b hb => by have h2 := KC.out.size; exact ⟨by omega, hb.2⟩)
        have KD := Lib.hid (KC.out.trans kx (T := None) (fun _ h => h) (fun _ _ h => h))
        clear KC kx o2 M0
        have KC := KD
        clear KD
        go_wp2
        refine MixK.on (InS.mk ((mH.out _).2 (⟨(CB.out _ KC.out).1.1, (CB.out _ KC.out).1.2, AR.out _, (CB.out _ KC.out).2.1⟩))) ?_
        refine wpMix_nil ?_
        refine wpPs_nil ?_
        refine wpT_leaf (ps := [(0, 8), (14, 4), (21, 3)]) (by kernel_rfl) ?_
        refine wpPs_cons ?_
        try simp only [List.take_succ_cons, List.take_zero, List.drop_succ_cons, List.drop_zero, Nat.reduceSub]
        refine wpMix_seg 8 (by kernel_rfl) (by decide) ?_
        simp only [List.take_succ_cons, List.take_zero, List.drop_succ_cons, List.drop_zero, Nat.reduceSub]
        repeat (first | go_big_quiet_step (fail) | (go_big_quiet_want; first | refine quiet_arr mk2 rfl rfl rfl (by simp only [Act.put, List.setIfInBounds_toArray, List.set_cons_succ, List.set_cons_zero]; rfl) ?_; go_big_quiet_on | refine quiet_load mk3 rfl rfl rfl (by simp only [Act.put, List.setIfInBounds_toArray, List.set_cons_succ, List.set_cons_zero]; rfl) ?_; go_big_quiet_on | refine quiet_build (BU.out A2 200 cap2) rfl rfl (by simp [Act.eval]) (by simp only [Act.put, List.setIfInBounds_toArray, List.set_cons_succ, List.set_cons_zero]; rfl) ?_; go_big_quiet_on))
        refine wpQuiet_nil ?_
        refine wpMix_nil ?_
        refine wpPs_cons ?_
        try simp only [List.take_succ_cons, List.take_zero, List.drop_succ_cons, List.drop_zero, Nat.reduceSub]
        refine wpMix_seg 4 (by kernel_rfl) (by decide) ?_
        simp only [List.take_succ_cons, List.take_zero, List.drop_succ_cons, List.drop_zero, Nat.reduceSub]
        repeat (first | go_big_quiet_step (fail) | (go_big_quiet_want; first | refine quiet_arr mk2 rfl rfl rfl (by simp only [Act.put, List.setIfInBounds_toArray, List.set_cons_succ, List.set_cons_zero]; rfl) ?_; go_big_quiet_on | refine quiet_load mk3 rfl rfl rfl (by simp only [Act.put, List.setIfInBounds_toArray, List.set_cons_succ, List.set_cons_zero]; rfl) ?_; go_big_quiet_on | refine quiet_build (BU.out A2 200 cap2) rfl rfl (by simp [Act.eval]) (by simp only [Act.put, List.setIfInBounds_toArray, List.set_cons_succ, List.set_cons_zero]; rfl) ?_; go_big_quiet_on))
        refine wpQuiet_nil ?_
        refine wpMix_nil ?_
        refine wpPs_cons ?_
        try simp only [List.take_succ_cons, List.take_zero, List.drop_succ_cons, List.drop_zero, Nat.reduceSub]
        refine wpMix_seg 1 (by kernel_rfl) (by decide) ?_
        simp only [List.take_succ_cons, List.take_zero, List.drop_succ_cons, List.drop_zero, Nat.reduceSub]
        repeat (first | go_big_quiet_step (fail) | (go_big_quiet_want; first | refine quiet_arr mk2 rfl rfl rfl (by simp only [Act.put, List.setIfInBounds_toArray, List.set_cons_succ, List.set_cons_zero]; rfl) ?_; go_big_quiet_on | refine quiet_load mk3 rfl rfl rfl (by simp only [Act.put, List.setIfInBounds_toArray, List.set_cons_succ, List.set_cons_zero]; rfl) ?_; go_big_quiet_on | refine quiet_build (BU.out A2 200 cap2) rfl rfl (by simp [Act.eval]) (by simp only [Act.put, List.setIfInBounds_toArray, List.set_cons_succ, List.set_cons_zero]; rfl) ?_; go_big_quiet_on))
        refine wpQuiet_nil ?_
        refine wpMix_eff (by kernel_rfl) ?_
        go_wp2
        first | (refine Exists.elim (⟨_, rfl⟩ : ∃ x, w2.alloc (.cells #[.int .i64 0, .int .i64 0, .int .i64 0, .int .i64 0, .int .u8 0, .int .u8 0, .int .u8 0, .int .u8 0, .int .u8 0, .int .u8 0, .int .u8 0, .int .u8 0, .slice none 0 0] 29) = x) fun wy hwy => ?_; refine Exists.elim (⟨_, rfl⟩ : ∃ x, w2.heap.size = x) fun nb hnb => ?_; rw [hwy, hnb]) | (refine Exists.elim (⟨_, rfl⟩ : ∃ x, wb.drew.alloc (.cells #[.int .i64 0, .int .i64 0, .int .i64 0, .int .i64 0, .int .u8 0, .int .u8 0, .int .u8 0, .int .u8 0, .int .u8 0, .int .u8 0, .int .u8 0, .int .u8 0, .slice none 0 0] 29) = x) fun wy hwy => ?_; refine Exists.elim (⟨_, rfl⟩ : ∃ x, wb.heap.size = x) fun nb hnb => ?_; rw [hwy, hnb]) | (refine Exists.elim (⟨_, rfl⟩ : ∃ x, (wb.alloc (.cells #[.int .i64 0, .int .i64 0, .int .i64 0, .int .i64 0, .int .u8 0, .int .u8 0, .int .u8 0, .int .u8 0, .int .u8 0, .int .u8 0, .int .u8 0, .int .u8 0, .slice none 0 0] 29)).drew = x) fun wy hwy => ?_; refine Exists.elim (⟨_, rfl⟩ : ∃ x, wb.heap.size = x) fun nb hnb => ?_; rw [hwy, hnb])
        have NB : Hid (Blk wy nb (chk0.cs none 0 0) 29) := by rw [← hwy, ← hnb, chk_zero]; first | exact Blk.new w2 (chk0.cs none 0 0) 29 | exact Blk.new wb.drew (chk0.cs none 0 0) 29 | exact (Blk.new wb (chk0.cs none 0 0) 29).drew
        have NBL : Hid (wb.heap.size ≤ nb) := by rw [← hnb]; exact KC.out.size
        have KD : Hid (Keeps None wb wy) := by rw [← hwy]; first | exact KC.out.alloc _ | exact ((Keeps.refl None wb).alloc _).drew
        try have MV : Hid (ChkV wy (fun b => w.heap.size < b ∧ ¬ b = nb) A2 200 cap2 (zs.drop 32)) := by rw [← hwy, ← hnb]; exact (MW.out.mono (fun b hb => ⟨hb.1, Nat.ne_of_lt hb.2⟩)).later ((Keeps.refl None w2).alloc _)
        clear KC hwy hnb
        have KC := KD
        clear KD
        refine MixK.on (InS.mk ((mH.out _).2 (⟨(CB.out _ KC.out).1.1, (CB.out _ KC.out).1.2, AR.out _, (CB.out _ KC.out).2.1⟩))) ?_
        refine wpMix_eff (by kernel_rfl) ?_
        go_wp2_with (refine wpList_store_blk (b := nb) (o := 0) (ds := C.cs A2 200 cap2) NB.out (by rw [CL.out]; decide) (Chk.cs_one _ _ _ _) rfl rfl rfl rfl (by rw [CL.out]; exact chk_size) ?_)
        intro w3 b3 k3
        rw [splice_all (by rw [CL.out]; rfl)] at b3
        have N3 := Lib.hid b3
        have K3 : Hid (Keeps None wb w3) := KC.out.trans k3 (fun _ h => h) (fun b hb e => absurd e (by have := NBL.out; omega))
        have R3 : Hid (Blk w3 w.heap.size (chk0.cs none 0 0) 29) := K3.out.blk RB.out (fun h => h)
        have M3 : Hid (ChkV w3 (fun b => w.heap.size < b ∧ ¬ b = nb) A2 200 cap2 (zs.drop 32)) := MV.out.keeps k3 (fun b hb e => hb.2 e)
        clear b3 k3 NB KC
        go_wp2
        refine MixK.on (InS.mk ((mH.out _).2 (⟨(CB.out _ K3.out).1.1, (CB.out _ K3.out).1.2, AR.out _, (CB.out _ K3.out).2.1⟩))) ?_
        refine wpMix_nil ?_
        refine wpPs_nil ?_
        clear mk0 mk1 mk2 mk3 mn mH
        go_wp2_with (refine wpList_load_blk (b := nb) (o := 0) (ds := C.cs A2 200 cap2) N3.out (fun j v hv => by rw [Nat.zero_add]; exact hv) rfl rfl rfl Try.underlying29 rfl (by rw [CL.out]; exact chk_size) ?_)
        go_wp2_with fail
        refine (PUT.out _ _ _ M3.out.b).mono ?_
        rintro e w4 ⟨v4, rfl, o4, k4⟩
        obtain ⟨A4, c4, rfl, bs4, -⟩ := o4.shape
        have K4 := Lib.hid (K3.out.trans k4 (T := None) (fun _ h => h) (fun _ _ h => h))
        have N4 := Lib.hid (k4.blk N3.out (fun h => h))
        have R4 := Lib.hid (k4.blk R3.out (fun h => h))
        have M4 := Lib.hid (M3.out.later k4)
        have EQ := Lib.hid (bequal_any _ _ _ _ _ _ _ _ w4 bs4 (CB.out _ K4.out).2.2)
        clear o4 k4 bs4 K3 N3 R3 M3
        go_wp2_with fail
        refine EQ.out.mono ?_
        rintro e w5 ⟨rfl, rfl⟩
        by_cases hq : chkL C = zs
        · rw [decide_eq_true hq]
          rw [if_pos hq] at GC
          clear EQ
          go_wp2_with (first | (refine wpList_load_blk (b := nb) (o := 0) (ds := C.cs A2 200 cap2) N4.out (fun j v hv => by rw [Nat.zero_add]; exact hv) rfl rfl rfl Try.underlying29 rfl (by rw [CL.out]; exact chk_size) ?_) | (refine wpList_store_blk (b := w.heap.size) (o := 0) (ds := C.cs A2 200 cap2) R4.out (by rw [CL.out]; decide) (Chk.cs_one _ _ _ _) rfl rfl rfl rfl (by rw [CL.out]; exact chk_size) ?_))
          intro w6 b6 k6
          rw [splice_all (by rw [CL.out]; rfl)] at b6
          have B6 := Lib.hid b6
          have M6 := Lib.hid (M4.out.keeps k6 (fun b hb e => by have h1 := hb.1; omega))
          have K6 := Lib.hid ((KB.out.trans K4.out (T := None) (fun _ h => h) (fun _ _ h => h)).trans k6 (T := None) (fun _ h => h) (fun b hb e => absurd e (by omega)))
          clear b6 k6 N4 R4 K4 M4
          go_wp2
          refine bodyPost_ret (cell_res rfl _ B6.out Try.underlying29 rfl (by rw [CL.out]; exact chk_size) rfl rfl) rfl ?_
          exact ⟨A2, 200, cap2, by rw [GC.out]; rfl, by rw [GC.out, HMID.out]; exact M6.out.mono (fun b hb => Nat.le_of_lt hb.1), K6.out⟩
        · rw [decide_eq_false hq]
          rw [if_neg hq] at GC
          clear EQ
          go_wp2_with (refine wpList_store_blk (b := w.heap.size) (o := 0) (ds := chk0.cs none 0 0) R4.out (by decide) (Chk.cs_one _ _ _ _) rfl rfl rfl (by rw [← chk_zero]; rfl) chk_size ?_)
          intro w6 b6 k6
          rw [splice_all rfl] at b6
          have B6 := Lib.hid b6
          have K6 := Lib.hid ((KB.out.trans K4.out (T := None) (fun _ h => h) (fun _ _ h => h)).trans k6 (T := None) (fun _ h => h) (fun b hb e => absurd e (by omega)))
          clear b6 k6 N4 R4 K4 M4
          go_wp2
          refine bodyPost_ret (cell_res rfl _ B6.out Try.underlying29 rfl chk_size rfl rfl) rfl ?_
          exact ⟨none, 0, 0, by rw [GC.out]; rfl, by rw [GC.out]; exact ChkV.nil _ _, K6.out⟩
      ·
        refine wpPs_cons ?_
        try simp only [List.take_succ_cons, List.take_zero, List.drop_succ_cons, List.drop_zero, Nat.reduceSub]
        refine wpMix_eff (by kernel_rfl) ?_
        go_wp2
        first | (refine Exists.elim (⟨_, rfl⟩ : ∃ x, w2.alloc (.cells #[.int .i64 0, .int .i64 0, .int .i64 0, .int .i64 0, .int .u8 0, .int .u8 0, .int .u8 0, .int .u8 0, .int .u8 0, .int .u8 0, .int .u8 0, .int .u8 0, .slice none 0 0] 29) = x) fun wy hwy => ?_; refine Exists.elim (⟨_, rfl⟩ : ∃ x, w2.heap.size = x) fun nb hnb => ?_; rw [hwy, hnb]) | (refine Exists.elim (⟨_, rfl⟩ : ∃ x, wb.drew.alloc (.cells #[.int .i64 0, .int .i64 0, .int .i64 0, .int .i64 0, .int .u8 0, .int .u8 0, .int .u8 0, .int .u8 0, .int .u8 0, .int .u8 0, .int .u8 0, .int .u8 0, .slice none 0 0] 29) = x) fun wy hwy => ?_; refine Exists.elim (⟨_, rfl⟩ : ∃ x, wb.heap.size = x) fun nb hnb => ?_; rw [hwy, hnb]) | (refine Exists.elim (⟨_, rfl⟩ : ∃ x, (wb.alloc (.cells #[.int .i64 0, .int .i64 0, .int .i64 0, .int .i64 0, .int .u8 0, .int .u8 0, .int .u8 0, .int .u8 0, .int .u8 0, .int .u8 0, .int .u8 0, .int .u8 0, .slice none 0 0] 29)).drew = x) fun wy hwy => ?_; refine Exists.elim (⟨_, rfl⟩ : ∃ x, wb.heap.size = x) fun nb hnb => ?_; rw [hwy, hnb])
        have NB : Hid (Blk wy nb (chk0.cs none 0 0) 29) := by rw [← hwy, ← hnb, chk_zero]; first | exact Blk.new w2 (chk0.cs none 0 0) 29 | exact Blk.new wb.drew (chk0.cs none 0 0) 29 | exact (Blk.new wb (chk0.cs none 0 0) 29).drew
        have NBL : Hid (wb.heap.size ≤ nb) := by rw [← hnb]; exact KC.out.size
        have KD : Hid (Keeps None wb wy) := by rw [← hwy]; first | exact KC.out.alloc _ | exact ((Keeps.refl None wb).alloc _).drew
        try have MV : Hid (ChkV wy (fun b => w.heap.size < b ∧ ¬ b = nb) A2 200 cap2 (zs.drop 32)) := by rw [← hwy, ← hnb]; exact (MW.out.mono (fun b hb => ⟨hb.1, Nat.ne_of_lt hb.2⟩)).later ((Keeps.refl None w2).alloc _)
        clear KC hwy hnb
        have KC := KD
        clear KD
        refine MixK.on (InS.mk ((mH.out _).2 (⟨(CB.out _ KC.out).1.1, (CB.out _ KC.out).1.2, AR.out _, (CB.out _ KC.out).2.1⟩))) ?_
        refine wpMix_nil ?_
        refine wpPs_nil ?_
        refine wpT_leaf (ps := [(0, 8), (14, 8), (23, 1)]) (by kernel_rfl) ?_
        refine wpPs_cons ?_
        try simp only [List.take_succ_cons, List.take_zero, List.drop_succ_cons, List.drop_zero, Nat.reduceSub]
        refine wpMix_seg 8 (by kernel_rfl) (by decide) ?_
        simp only [List.take_succ_cons, List.take_zero, List.drop_succ_cons, List.drop_zero, Nat.reduceSub]
        repeat (first | go_big_quiet_step (fail) | (go_big_quiet_want; first | refine quiet_arr mk2 rfl rfl rfl (by simp only [Act.put, List.setIfInBounds_toArray, List.set_cons_succ, List.set_cons_zero]; rfl) ?_; go_big_quiet_on | refine quiet_load mk3 rfl rfl rfl (by simp only [Act.put, List.setIfInBounds_toArray, List.set_cons_succ, List.set_cons_zero]; rfl) ?_; go_big_quiet_on | refine quiet_build (BU.out A2 200 cap2) rfl rfl (by simp [Act.eval]) (by simp only [Act.put, List.setIfInBounds_toArray, List.set_cons_succ, List.set_cons_zero]; rfl) ?_; go_big_quiet_on))
        refine wpQuiet_nil ?_
        refine wpMix_nil ?_
        refine wpPs_cons ?_
        try simp only [List.take_succ_cons, List.take_zero, List.drop_succ_cons, List.drop_zero, Nat.reduceSub]
        refine wpMix_seg 6 (by kernel_rfl) (by decide) ?_
        simp only [List.take_succ_cons, List.take_zero, List.drop_succ_cons, List.drop_zero, Nat.reduceSub]
        repeat (first | go_big_quiet_step (fail) | (go_big_quiet_want; first | refine quiet_arr mk2 rfl rfl rfl (by simp only [Act.put, List.setIfInBounds_toArray, List.set_cons_succ, List.set_cons_zero]; rfl) ?_; go_big_quiet_on | refine quiet_load mk3 rfl rfl rfl (by simp only [Act.put, List.setIfInBounds_toArray, List.set_cons_succ, List.set_cons_zero]; rfl) ?_; go_big_quiet_on | refine quiet_build (BU.out A2 200 cap2) rfl rfl (by simp [Act.eval]) (by simp only [Act.put, List.setIfInBounds_toArray, List.set_cons_succ, List.set_cons_zero]; rfl) ?_; go_big_quiet_on))
        refine wpQuiet_nil ?_
        refine wpMix_eff (by kernel_rfl) ?_
        go_wp2_with fail
        refine (CLN.out _ ((CB.out _ KC.out).2.2.drop (by decide))).mono ?_
        rintro e w2 ⟨v2, rfl, o2, kx⟩
        obtain ⟨A2, cap2, rfl, -, -⟩ := o2.shape
        rw [L200.out] at o2 ⊢
        have M0 := Lib.hid (chkV_own o2).lt
        try have NN := Lib.hid (kx.blk NB.out (fun h => h))
        try have MV : Hid (ChkV w2 (fun b => w.heap.size < b ∧ ¬ b = nb) A2 200 cap2 (zs.drop 32)) := M0.out.mono (fun b hb => by have h1 := NB.out.lt; have h2 := KC.out.size; exact ⟨by omega, by omega⟩)
        try clear NB
        try have NB := NN
        try clear NN
        have MW : Hid (ChkV w2 (fun b => w.heap.size < b ∧ b < w2.heap.size) A2 200 cap2 (zs.drop 32)) := M0.out.mono (fun b hb => by have h2 := KC.out.size; exact ⟨by omega, hb.2⟩)
        have KD := Lib.hid (KC.out.trans kx (T := None) (fun _ h => h) (fun _ _ h => h))
        clear KC kx o2 M0
        have KC := KD
        clear KD
        go_wp2
        refine MixK.on (InS.mk ((mH.out _).2 (⟨(CB.out _ KC.out).1.1, (CB.out _ KC.out).1.2, AR.out _, (CB.out _ KC.out).2.1⟩))) ?_
        refine wpMix_seg 1 (by kernel_rfl) (by decide) ?_
        simp only [List.take_succ_cons, List.take_zero, List.drop_succ_cons, List.drop_zero, Nat.reduceSub]
        repeat (first | go_big_quiet_step (fail) | (go_big_quiet_want; first | refine quiet_arr mk2 rfl rfl rfl (by simp only [Act.put, List.setIfInBounds_toArray, List.set_cons_succ, List.set_cons_zero]; rfl) ?_; go_big_quiet_on | refine quiet_load mk3 rfl rfl rfl (by simp only [Act.put, List.setIfInBounds_toArray, List.set_cons_succ, List.set_cons_zero]; rfl) ?_; go_big_quiet_on | refine quiet_build (BU.out A2 200 cap2) rfl rfl (by simp [Act.eval]) (by simp only [Act.put, List.setIfInBounds_toArray, List.set_cons_succ, List.set_cons_zero]; rfl) ?_; go_big_quiet_on))
        refine wpQuiet_nil ?_
        refine wpMix_nil ?_
        refine wpPs_cons ?_
        try simp only [List.take_succ_cons, List.take_zero, List.drop_succ_cons, List.drop_zero, Nat.reduceSub]
        refine wpMix_eff (by kernel_rfl) ?_
        go_wp2_with (refine wpList_store_blk (b := nb) (o := 0) (ds := C.cs A2 200 cap2) NB.out (by rw [CL.out]; decide) (Chk.cs_one _ _ _ _) rfl rfl rfl rfl (by rw [CL.out]; exact chk_size) ?_)
        intro w3 b3 k3
        rw [splice_all (by rw [CL.out]; rfl)] at b3
        have N3 := Lib.hid b3
        have K3 : Hid (Keeps None wb w3) := KC.out.trans k3 (fun _ h => h) (fun b hb e => absurd e (by have := NBL.out; omega))
        have R3 : Hid (Blk w3 w.heap.size (chk0.cs none 0 0) 29) := K3.out.blk RB.out (fun h => h)
        have M3 : Hid (ChkV w3 (fun b => w.heap.size < b ∧ ¬ b = nb) A2 200 cap2 (zs.drop 32)) := MV.out.keeps k3 (fun b hb e => hb.2 e)
        clear b3 k3 NB KC
        go_wp2
        refine MixK.on (InS.mk ((mH.out _).2 (⟨(CB.out _ K3.out).1.1, (CB.out _ K3.out).1.2, AR.out _, (CB.out _ K3.out).2.1⟩))) ?_
        refine wpMix_nil ?_
        refine wpPs_nil ?_
        clear mk0 mk1 mk2 mk3 mn mH
        go_wp2_with (refine wpList_load_blk (b := nb) (o := 0) (ds := C.cs A2 200 cap2) N3.out (fun j v hv => by rw [Nat.zero_add]; exact hv) rfl rfl rfl Try.underlying29 rfl (by rw [CL.out]; exact chk_size) ?_)
        go_wp2_with fail
        refine (PUT.out _ _ _ M3.out.b).mono ?_
        rintro e w4 ⟨v4, rfl, o4, k4⟩
        obtain ⟨A4, c4, rfl, bs4, -⟩ := o4.shape
        have K4 := Lib.hid (K3.out.trans k4 (T := None) (fun _ h => h) (fun _ _ h => h))
        have N4 := Lib.hid (k4.blk N3.out (fun h => h))
        have R4 := Lib.hid (k4.blk R3.out (fun h => h))
        have M4 := Lib.hid (M3.out.later k4)
        have EQ := Lib.hid (bequal_any _ _ _ _ _ _ _ _ w4 bs4 (CB.out _ K4.out).2.2)
        clear o4 k4 bs4 K3 N3 R3 M3
        go_wp2_with fail
        refine EQ.out.mono ?_
        rintro e w5 ⟨rfl, rfl⟩
        by_cases hq : chkL C = zs
        · rw [decide_eq_true hq]
          rw [if_pos hq] at GC
          clear EQ
          go_wp2_with (first | (refine wpList_load_blk (b := nb) (o := 0) (ds := C.cs A2 200 cap2) N4.out (fun j v hv => by rw [Nat.zero_add]; exact hv) rfl rfl rfl Try.underlying29 rfl (by rw [CL.out]; exact chk_size) ?_) | (refine wpList_store_blk (b := w.heap.size) (o := 0) (ds := C.cs A2 200 cap2) R4.out (by rw [CL.out]; decide) (Chk.cs_one _ _ _ _) rfl rfl rfl rfl (by rw [CL.out]; exact chk_size) ?_))
          intro w6 b6 k6
          rw [splice_all (by rw [CL.out]; rfl)] at b6
          have B6 := Lib.hid b6
          have M6 := Lib.hid (M4.out.keeps k6 (fun b hb e => by have h1 := hb.1; omega))
          have K6 := Lib.hid ((KB.out.trans K4.out (T := None) (fun _ h => h) (fun _ _ h => h)).trans k6 (T := None) (fun _ h => h) (fun b hb e => absurd e (by omega)))
          clear b6 k6 N4 R4 K4 M4
          go_wp2
          refine bodyPost_ret (cell_res rfl _ B6.out Try.underlying29 rfl (by rw [CL.out]; exact chk_size) rfl rfl) rfl ?_
          exact ⟨A2, 200, cap2, by rw [GC.out]; rfl, by rw [GC.out, HMID.out]; exact M6.out.mono (fun b hb => Nat.le_of_lt hb.1), K6.out⟩
        · rw [decide_eq_false hq]
          rw [if_neg hq] at GC
          clear EQ
          go_wp2_with (refine wpList_store_blk (b := w.heap.size) (o := 0) (ds := chk0.cs none 0 0) R4.out (by decide) (Chk.cs_one _ _ _ _) rfl rfl rfl (by rw [← chk_zero]; rfl) chk_size ?_)
          intro w6 b6 k6
          rw [splice_all rfl] at b6
          have B6 := Lib.hid b6
          have K6 := Lib.hid ((KB.out.trans K4.out (T := None) (fun _ h => h) (fun _ _ h => h)).trans k6 (T := None) (fun _ h => h) (fun b hb e => absurd e (by omega)))
          clear b6 k6 N4 R4 K4 M4
          go_wp2
          refine bodyPost_ret (cell_res rfl _ B6.out Try.underlying29 rfl chk_size rfl rfl) rfl ?_
          exact ⟨none, 0, 0, by rw [GC.out]; rfl, by rw [GC.out]; exact ChkV.nil _ _, K6.out⟩
    ·
      refine wpPs_cons ?_
      try simp only [List.take_succ_cons, List.take_zero, List.drop_succ_cons, List.drop_zero, Nat.reduceSub]
      refine wpMix_eff (by kernel_rfl) ?_
      go_wp2
      first | (refine Exists.elim (⟨_, rfl⟩ : ∃ x, w2.alloc (.cells #[.int .i64 0, .int .i64 0, .int .i64 0, .int .i64 0, .int .u8 0, .int .u8 0, .int .u8 0, .int .u8 0, .int .u8 0, .int .u8 0, .int .u8 0, .int .u8 0, .slice none 0 0] 29) = x) fun wy hwy => ?_; refine Exists.elim (⟨_, rfl⟩ : ∃ x, w2.heap.size = x) fun nb hnb => ?_; rw [hwy, hnb]) | (refine Exists.elim (⟨_, rfl⟩ : ∃ x, wb.drew.alloc (.cells #[.int .i64 0, .int .i64 0, .int .i64 0, .int .i64 0, .int .u8 0, .int .u8 0, .int .u8 0, .int .u8 0, .int .u8 0, .int .u8 0, .int .u8 0, .int .u8 0, .slice none 0 0] 29) = x) fun wy hwy => ?_; refine Exists.elim (⟨_, rfl⟩ : ∃ x, wb.heap.size = x) fun nb hnb => ?_; rw [hwy, hnb]) | (refine Exists.elim (⟨_, rfl⟩ : ∃ x, (wb.alloc (.cells #[.int .i64 0, .int .i64 0, .int .i64 0, .int .i64 0, .int .u8 0, .int .u8 0, .int .u8 0, .int .u8 0, .int .u8 0, .int .u8 0, .int .u8 0, .int .u8 0, .slice none 0 0] 29)).drew = x) fun wy hwy => ?_; refine Exists.elim (⟨_, rfl⟩ : ∃ x, wb.heap.size = x) fun nb hnb => ?_; rw [hwy, hnb])
      have NB : Hid (Blk wy nb (chk0.cs none 0 0) 29) := by rw [← hwy, ← hnb, chk_zero]; first | exact Blk.new w2 (chk0.cs none 0 0) 29 | exact Blk.new wb.drew (chk0.cs none 0 0) 29 | exact (Blk.new wb (chk0.cs none 0 0) 29).drew
      have NBL : Hid (wb.heap.size ≤ nb) := by rw [← hnb]; exact KC.out.size
      have KD : Hid (Keeps None wb wy) := by rw [← hwy]; first | exact KC.out.alloc _ | exact ((Keeps.refl None wb).alloc _).drew
      try have MV : Hid (ChkV wy (fun b => w.heap.size < b ∧ ¬ b = nb) A2 200 cap2 (zs.drop 32)) := by rw [← hwy, ← hnb]; exact (MW.out.mono (fun b hb => ⟨hb.1, Nat.ne_of_lt hb.2⟩)).later ((Keeps.refl None w2).alloc _)
      clear KC hwy hnb
      have KC := KD
      clear KD
      refine MixK.on (InS.mk ((mH.out _).2 (⟨(CB.out _ KC.out).1.1, (CB.out _ KC.out).1.2, AR.out _, (CB.out _ KC.out).2.1⟩))) ?_
      refine wpMix_nil ?_
      refine wpPs_nil ?_
      refine wpT_node1 (us := [(0, 8), (11, 11), (23, 1)]) [(11, 3)] [(0, 8), (14, 8), (23, 1)] (by kernel_rfl) ?_
      ·
        refine wpPs_cons ?_
        try simp only [List.take_succ_cons, List.take_zero, List.drop_succ_cons, List.drop_zero, Nat.reduceSub]
        refine wpMix_seg 2 (by kernel_rfl) (by decide) ?_
        simp only [List.take_succ_cons, List.take_zero, List.drop_succ_cons, List.drop_zero, Nat.reduceSub]
        repeat (first | go_big_quiet_step (fail) | (go_big_quiet_want; first | refine quiet_arr mk2 rfl rfl rfl (by simp only [Act.put, List.setIfInBounds_toArray, List.set_cons_succ, List.set_cons_zero]; rfl) ?_; go_big_quiet_on | refine quiet_load mk3 rfl rfl rfl (by simp only [Act.put, List.setIfInBounds_toArray, List.set_cons_succ, List.set_cons_zero]; rfl) ?_; go_big_quiet_on | refine quiet_build (BU.out A2 200 cap2) rfl rfl (by simp [Act.eval]) (by simp only [Act.put, List.setIfInBounds_toArray, List.set_cons_succ, List.set_cons_zero]; rfl) ?_; go_big_quiet_on))
        refine wpQuiet_nil ?_
        refine wpMix_eff (by kernel_rfl) ?_
        go_wp2_with fail
        refine (V2.out _ ((CB.out _ KC.out).2.2.drop (by decide))).mono ?_
        rintro e w' ⟨rfl, rfl⟩
        go_wp2
        refine MixK.on (InS.mk ((mH.out _).2 (⟨(CB.out _ KC.out).1.1, (CB.out _ KC.out).1.2, AR.out _, (CB.out _ KC.out).2.1⟩))) ?_
        refine wpMix_nil ?_
        refine wpPs_nil ?_
        refine wpT_leaf (ps := [(0, 8), (14, 8), (23, 1)]) (by kernel_rfl) ?_
        refine wpPs_cons ?_
        try simp only [List.take_succ_cons, List.take_zero, List.drop_succ_cons, List.drop_zero, Nat.reduceSub]
        refine wpMix_seg 8 (by kernel_rfl) (by decide) ?_
        simp only [List.take_succ_cons, List.take_zero, List.drop_succ_cons, List.drop_zero, Nat.reduceSub]
        repeat (first | go_big_quiet_step (fail) | (go_big_quiet_want; first | refine quiet_arr mk2 rfl rfl rfl (by simp only [Act.put, List.setIfInBounds_toArray, List.set_cons_succ, List.set_cons_zero]; rfl) ?_; go_big_quiet_on | refine quiet_load mk3 rfl rfl rfl (by simp only [Act.put, List.setIfInBounds_toArray, List.set_cons_succ, List.set_cons_zero]; rfl) ?_; go_big_quiet_on | refine quiet_build (BU.out A2 200 cap2) rfl rfl (by simp [Act.eval]) (by simp only [Act.put, List.setIfInBounds_toArray, List.set_cons_succ, List.set_cons_zero]; rfl) ?_; go_big_quiet_on))
        refine wpQuiet_nil ?_
        refine wpMix_nil ?_
        refine wpPs_cons ?_
        try simp only [List.take_succ_cons, List.take_zero, List.drop_succ_cons, List.drop_zero, Nat.reduceSub]
        refine wpMix_seg 6 (by kernel_rfl) (by decide) ?_
        simp only [List.take_succ_cons, List.take_zero, List.drop_succ_cons, List.drop_zero, Nat.reduceSub]
        repeat (first | go_big_quiet_step (fail) | (go_big_quiet_want; first | refine quiet_arr mk2 rfl rfl rfl (by simp only [Act.put, List.setIfInBounds_toArray, List.set_cons_succ, List.set_cons_zero]; rfl) ?_; go_big_quiet_on | refine quiet_load mk3 rfl rfl rfl (by simp only [Act.put, List.setIfInBounds_toArray, List.set_cons_succ, List.set_cons_zero]; rfl) ?_; go_big_quiet_on | refine quiet_build (BU.out A2 200 cap2) rfl rfl (by simp [Act.eval]) (by simp only [Act.put, List.setIfInBounds_toArray, List.set_cons_succ, List.set_cons_zero]; rfl) ?_; go_big_quiet_on))
        refine wpQuiet_nil ?_
        refine wpMix_eff (by kernel_rfl) ?_
        go_wp2_with fail
        refine (CLN.out _ ((CB.out _ KC.out).2.2.drop (by decide))).mono ?_
        rintro e w2 ⟨v2, rfl, o2, kx⟩
        obtain ⟨A2, cap2, rfl, -, -⟩ := o2.shape
        rw [L200.out] at o2 ⊢
        have M0 := Lib.hid (chkV_own o2).lt
        try have NN := Lib.hid (kx.blk NB.out (fun h => h))
        try have MV : Hid (ChkV w2 (fun b => w.heap.size < b ∧ ¬ b = nb) A2 200 cap2 (zs.drop 32)) := M0.out.mono (fun b hb => by have h1 := NB.out.lt; have h2 := KC.out.size; exact ⟨by omega, by omega⟩)
        try clear NB
        try have NB := NN
        try clear NN
        have MW : Hid (ChkV w2 (fun b => w.heap.size < b ∧ b < w2.heap.size) A2 200 cap2 (zs.drop 32)) := M0.out.mono (fun b hb => by have h2 := KC.out.size; exact ⟨by omega, hb.2⟩)
        have KD := Lib.hid (KC.out.trans kx (T := None) (fun _ h => h) (fun _ _ h => h))
        clear KC kx o2 M0
        have KC := KD
        clear KD
        go_wp2
        refine MixK.on (InS.mk ((mH.out _).2 (⟨(CB.out _ KC.out).1.1, (CB.out _ KC.out).1.2, AR.out _, (CB.out _ KC.out).2.1⟩))) ?_
        refine wpMix_seg 1 (by kernel_rfl) (by decide) ?_
        simp only [List.take_succ_cons, List.take_zero, List.drop_succ_cons, List.drop_zero, Nat.reduceSub]
        repeat (first | go_big_quiet_step (fail) | (go_big_quiet_want; first | refine quiet_arr mk2 rfl rfl rfl (by simp only [Act.put, List.setIfInBounds_toArray, List.set_cons_succ, List.set_cons_zero]; rfl) ?_; go_big_quiet_on | refine quiet_load mk3 rfl rfl rfl (by simp only [Act.put, List.setIfInBounds_toArray, List.set_cons_succ, List.set_cons_zero]; rfl) ?_; go_big_quiet_on | refine quiet_build (BU.out A2 200 cap2) rfl rfl (by simp [Act.eval]) (by simp only [Act.put, List.setIfInBounds_toArray, List.set_cons_succ, List.set_cons_zero]; rfl) ?_; go_big_quiet_on))
        refine wpQuiet_nil ?_
        refine wpMix_nil ?_
        refine wpPs_cons ?_
        try simp only [List.take_succ_cons, List.take_zero, List.drop_succ_cons, List.drop_zero, Nat.reduceSub]
        refine wpMix_eff (by kernel_rfl) ?_
        go_wp2_with (refine wpList_store_blk (b := nb) (o := 0) (ds := C.cs A2 200 cap2) NB.out (by rw [CL.out]; decide) (Chk.cs_one _ _ _ _) rfl rfl rfl rfl (by rw [CL.out]; exact chk_size) ?_)
        intro w3 b3 k3
        rw [splice_all (by rw [CL.out]; rfl)] at b3
        have N3 := Lib.hid b3
        have K3 : Hid (Keeps None wb w3) := KC.out.trans k3 (fun _ h => h) (fun b hb e => absurd e (by have := NBL.out; omega))
        have R3 : Hid (Blk w3 w.heap.size (chk0.cs none 0 0) 29) := K3.out.blk RB.out (fun h => h)
        have M3 : Hid (ChkV w3 (fun b => w.heap.size < b ∧ ¬ b = nb) A2 200 cap2 (zs.drop 32)) := MV.out.keeps k3 (fun b hb e => hb.2 e)
        clear b3 k3 NB KC
        go_wp2
        refine MixK.on (InS.mk ((mH.out _).2 (⟨(CB.out _ K3.out).1.1, (CB.out _ K3.out).1.2, AR.out _, (CB.out _ K3.out).2.1⟩))) ?_
        refine wpMix_nil ?_
        refine wpPs_nil ?_
        clear mk0 mk1 mk2 mk3 mn mH
        go_wp2_with (refine wpList_load_blk (b := nb) (o := 0) (ds := C.cs A2 200 cap2) N3.out (fun j v hv => by rw [Nat.zero_add]; exact hv) rfl rfl rfl Try.underlying29 rfl (by rw [CL.out]; exact chk_size) ?_)
        go_wp2_with fail
        refine (PUT.out _ _ _ M3.out.b).mono ?_
        rintro e w4 ⟨v4, rfl, o4, k4⟩
        obtain ⟨A4, c4, rfl, bs4, -⟩ := o4.shape
        have K4 := Lib.hid (K3.out.trans k4 (T := None) (fun _ h => h) (fun _ _ h => h))
        have N4 := Lib.hid (k4.blk N3.out (fun h => h))
        have R4 := Lib.hid (k4.blk R3.out (fun h => h))
        have M4 := Lib.hid (M3.out.later k4)
        have EQ := Lib.hid (bequal_any _ _ _ _ _ _ _ _ w4 bs4 (CB.out _ K4.out).2.2)
        clear o4 k4 bs4 K3 N3 R3 M3
        go_wp2_with fail
        refine EQ.out.mono ?_
        rintro e w5 ⟨rfl, rfl⟩
        by_cases hq : chkL C = zs
        · rw [decide_eq_true hq]
          rw [if_pos hq] at GC
          clear EQ
          go_wp2_with (first | (refine wpList_load_blk (b := nb) (o := 0) (ds := C.cs A2 200 cap2) N4.out (fun j v hv => by rw [Nat.zero_add]; exact hv) rfl rfl rfl Try.underlying29 rfl (by rw [CL.out]; exact chk_size) ?_) | (refine wpList_store_blk (b := w.heap.size) (o := 0) (ds := C.cs A2 200 cap2) R4.out (by rw [CL.out]; decide) (Chk.cs_one _ _ _ _) rfl rfl rfl rfl (by rw [CL.out]; exact chk_size) ?_))
          intro w6 b6 k6
          rw [splice_all (by rw [CL.out]; rfl)] at b6
          have B6 := Lib.hid b6
          have M6 := Lib.hid (M4.out.keeps k6 (fun b hb e => by have h1 := hb.1; omega))
          have K6 := Lib.hid ((KB.out.trans K4.out (T := None) (fun _ h => h) (fun _ _ h => h)).trans k6 (T := None) (fun _ h => h) (fun b hb e => absurd e (by omega)))
          clear b6 k6 N4 R4 K4 M4
          go_wp2
          refine bodyPost_ret (cell_res rfl _ B6.out Try.underlying29 rfl (by rw [CL.out]; exact chk_size) rfl rfl) rfl ?_
          exact ⟨A2, 200, cap2, by rw [GC.out]; rfl, by rw [GC.out, HMID.out]; exact M6.out.mono (fun b hb => Nat.le_of_lt hb.1), K6.out⟩
        · rw [decide_eq_false hq]
          rw [if_neg hq] at GC
          clear EQ
          go_wp2_with (refine wpList_store_blk (b := w.heap.size) (o := 0) (ds := chk0.cs none 0 0) R4.out (by decide) (Chk.cs_one _ _ _ _) rfl rfl rfl (by rw [← chk_zero]; rfl) chk_size ?_)
          intro w6 b6 k6
          rw [splice_all rfl] at b6
          have B6 := Lib.hid b6
          have K6 := Lib.hid ((KB.out.trans K4.out (T := None) (fun _ h => h) (fun _ _ h => h)).trans k6 (T := None) (fun _ h => h) (fun b hb e => absurd e (by omega)))
          clear b6 k6 N4 R4 K4 M4
          go_wp2
          refine bodyPost_ret (cell_res rfl _ B6.out Try.underlying29 rfl chk_size rfl rfl) rfl ?_
          exact ⟨none, 0, 0, by rw [GC.out]; rfl, by rw [GC.out]; exact ChkV.nil _ _, K6.out⟩
  ·
    refine wpPs_cons ?_
    try simp only [List.take_succ_cons, List.take_zero, List.drop_succ_cons, List.drop_zero, Nat.reduceSub]
    refine wpMix_eff (by kernel_rfl) ?_
    go_wp2
    first | (refine Exists.elim (⟨_, rfl⟩ : ∃ x, w2.alloc (.cells #[.int .i64 0, .int .i64 0, .int .i64 0, .int .i64 0, .int .u8 0, .int .u8 0, .int .u8 0, .int .u8 0, .int .u8 0, .int .u8 0, .int .u8 0, .int .u8 0, .slice none 0 0] 29) = x) fun wy hwy => ?_; refine Exists.elim (⟨_, rfl⟩ : ∃ x, w2.heap.size = x) fun nb hnb => ?_; rw [hwy, hnb]) | (refine Exists.elim (⟨_, rfl⟩ : ∃ x, wb.drew.alloc (.cells #[.int .i64 0, .int .i64 0, .int .i64 0, .int .i64 0, .int .u8 0, .int .u8 0, .int .u8 0, .int .u8 0, .int .u8 0, .int .u8 0, .int .u8 0, .int .u8 0, .slice none 0 0] 29) = x) fun wy hwy => ?_; refine Exists.elim (⟨_, rfl⟩ : ∃ x, wb.heap.size = x) fun nb hnb => ?_; rw [hwy, hnb]) | (refine Exists.elim (⟨_, rfl⟩ : ∃ x, (wb.alloc (.cells #[.int .i64 0, .int .i64 0, .int .i64 0, .int .i64 0, .int .u8 0, .int .u8 0, .int .u8 0, .int .u8 0, .int .u8 0, .int .u8 0, .int .u8 0, .int .u8 0, .slice none 0 0] 29)).drew = x) fun wy hwy => ?_; refine Exists.elim (⟨_, rfl⟩ : ∃ x, wb.heap.size = x) fun nb hnb => ?_; rw [hwy, hnb])
    have NB : Hid (Blk wy nb (chk0.cs none 0 0) 29) := by rw [← hwy, ← hnb, chk_zero]; first | exact Blk.new w2 (chk0.cs none 0 0) 29 | exact Blk.new wb.drew (chk0.cs none 0 0) 29 | exact (Blk.new wb (chk0.cs none 0 0) 29).drew
    have NBL : Hid (wb.heap.size ≤ nb) := by rw [← hnb]; exact KC.out.size
    have KD : Hid (Keeps None wb wy) := by rw [← hwy]; first | exact KC.out.alloc _ | exact ((Keeps.refl None wb).alloc _).drew
    try have MV : Hid (ChkV wy (fun b => w.heap.size < b ∧ ¬ b = nb) A2 200 cap2 (zs.drop 32)) := by rw [← hwy, ← hnb]; exact (MW.out.mono (fun b hb => ⟨hb.1, Nat.ne_of_lt hb.2⟩)).later ((Keeps.refl None w2).alloc _)
    clear KC hwy hnb
    have KC := KD
    clear KD
    refine MixK.on (InS.mk ((mH.out _).2 (⟨(CB.out _ KC.out).1.1, (CB.out _ KC.out).1.2, AR.out _, (CB.out _ KC.out).2.1⟩))) ?_
    refine wpMix_nil ?_
    refine wpPs_nil ?_
    refine wpT_node1 (us := [(0, 22), (23, 1)]) [(8, 3)] [(0, 8), (11, 11), (23, 1)] (by kernel_rfl) ?_
    ·
      refine wpPs_cons ?_
      try simp only [List.take_succ_cons, List.take_zero, List.drop_succ_cons, List.drop_zero, Nat.reduceSub]
      refine wpMix_seg 2 (by kernel_rfl) (by decide) ?_
      simp only [List.take_succ_cons, List.take_zero, List.drop_succ_cons, List.drop_zero, Nat.reduceSub]
      repeat (first | go_big_quiet_step (fail) | (go_big_quiet_want; first | refine quiet_arr mk2 rfl rfl rfl (by simp only [Act.put, List.setIfInBounds_toArray, List.set_cons_succ, List.set_cons_zero]; rfl) ?_; go_big_quiet_on | refine quiet_load mk3 rfl rfl rfl (by simp only [Act.put, List.setIfInBounds_toArray, List.set_cons_succ, List.set_cons_zero]; rfl) ?_; go_big_quiet_on | refine quiet_build (BU.out A2 200 cap2) rfl rfl (by simp [Act.eval]) (by simp only [Act.put, List.setIfInBounds_toArray, List.set_cons_succ, List.set_cons_zero]; rfl) ?_; go_big_quiet_on))
      refine wpQuiet_nil ?_
      refine wpMix_eff (by kernel_rfl) ?_
      go_wp2_with fail
      refine (V1.out _ ((CB.out _ KC.out).2.2.drop (by decide))).mono ?_
      rintro e w' ⟨rfl, rfl⟩
      go_wp2
      refine MixK.on (InS.mk ((mH.out _).2 (⟨(CB.out _ KC.out).1.1, (CB.out _ KC.out).1.2, AR.out _, (CB.out _ KC.out).2.1⟩))) ?_
      refine wpMix_nil ?_
      refine wpPs_nil ?_
      refine wpT_node1 (us := [(0, 8), (11, 11), (23, 1)]) [(11, 3)] [(0, 8), (14, 8), (23, 1)] (by kernel_rfl) ?_
      ·
        refine wpPs_cons ?_
        try simp only [List.take_succ_cons, List.take_zero, List.drop_succ_cons, List.drop_zero, Nat.reduceSub]
        refine wpMix_seg 2 (by kernel_rfl) (by decide) ?_
        simp only [List.take_succ_cons, List.take_zero, List.drop_succ_cons, List.drop_zero, Nat.reduceSub]
        repeat (first | go_big_quiet_step (fail) | (go_big_quiet_want; first | refine quiet_arr mk2 rfl rfl rfl (by simp only [Act.put, List.setIfInBounds_toArray, List.set_cons_succ, List.set_cons_zero]; rfl) ?_; go_big_quiet_on | refine quiet_load mk3 rfl rfl rfl (by simp only [Act.put, List.setIfInBounds_toArray, List.set_cons_succ, List.set_cons_zero]; rfl) ?_; go_big_quiet_on | refine quiet_build (BU.out A2 200 cap2) rfl rfl (by simp [Act.eval]) (by simp only [Act.put, List.setIfInBounds_toArray, List.set_cons_succ, List.set_cons_zero]; rfl) ?_; go_big_quiet_on))
        refine wpQuiet_nil ?_
        refine wpMix_eff (by kernel_rfl) ?_
        go_wp2_with fail
        refine (V2.out _ ((CB.out _ KC.out).2.2.drop (by decide))).mono ?_
        rintro e w' ⟨rfl, rfl⟩
        go_wp2
        refine MixK.on (InS.mk ((mH.out _).2 (⟨(CB.out _ KC.out).1.1, (CB.out _ KC.out).1.2, AR.out _, (CB.out _ KC.out).2.1⟩))) ?_
        refine wpMix_nil ?_
        refine wpPs_nil ?_
        refine wpT_leaf (ps := [(0, 8), (14, 8), (23, 1)]) (by kernel_rfl) ?_
        refine wpPs_cons ?_
        try simp only [List.take_succ_cons, List.take_zero, List.drop_succ_cons, List.drop_zero, Nat.reduceSub]
        refine wpMix_seg 8 (by kernel_rfl) (by decide) ?_
        simp only [List.take_succ_cons, List.take_zero, List.drop_succ_cons, List.drop_zero, Nat.reduceSub]
        repeat (first | go_big_quiet_step (fail) | (go_big_quiet_want; first | refine quiet_arr mk2 rfl rfl rfl (by simp only [Act.put, List.setIfInBounds_toArray, List.set_cons_succ, List.set_cons_zero]; rfl) ?_; go_big_quiet_on | refine quiet_load mk3 rfl rfl rfl (by simp only [Act.put, List.setIfInBounds_toArray, List.set_cons_succ, List.set_cons_zero]; rfl) ?_; go_big_quiet_on | refine quiet_build (BU.out A2 200 cap2) rfl rfl (by simp [Act.eval]) (by simp only [Act.put, List.setIfInBounds_toArray, List.set_cons_succ, List.set_cons_zero]; rfl) ?_; go_big_quiet_on))
        refine wpQuiet_nil ?_
        refine wpMix_nil ?_
        refine wpPs_cons ?_
        try simp only [List.take_succ_cons, List.take_zero, List.drop_succ_cons, List.drop_zero, Nat.reduceSub]
        refine wpMix_seg 6 (by kernel_rfl) (by decide) ?_
        simp only [List.take_succ_cons, List.take_zero, List.drop_succ_cons, List.drop_zero, Nat.reduceSub]
        repeat (first | go_big_quiet_step (fail) | (go_big_quiet_want; first | refine quiet_arr mk2 rfl rfl rfl (by simp only [Act.put, List.setIfInBounds_toArray, List.set_cons_succ, List.set_cons_zero]; rfl) ?_; go_big_quiet_on | refine quiet_load mk3 rfl rfl rfl (by simp only [Act.put, List.setIfInBounds_toArray, List.set_cons_succ, List.set_cons_zero]; rfl) ?_; go_big_quiet_on | refine quiet_build (BU.out A2 200 cap2) rfl rfl (by simp [Act.eval]) (by simp only [Act.put, List.setIfInBounds_toArray, List.set_cons_succ, List.set_cons_zero]; rfl) ?_; go_big_quiet_on))
        refine wpQuiet_nil ?_
        refine wpMix_eff (by kernel_rfl) ?_
        go_wp2_with fail
        refine (CLN.out _ ((CB.out _ KC.out).2.2.drop (by decide))).mono ?_
        rintro e w2 ⟨v2, rfl, o2, kx⟩
        obtain ⟨A2, cap2, rfl, -, -⟩ := o2.shape
        rw [L200.out] at o2 ⊢
        have M0 := Lib.hid (chkV_own o2).lt
        try have NN := Lib.hid (kx.blk NB.out (fun h => h))
        try have MV : Hid (ChkV w2 (fun b => w.heap.size < b ∧ ¬ b = nb) A2 200 cap2 (zs.drop 32)) := M0.out.mono (fun b hb => by have h1 := NB.out.lt; have h2 := KC.out.size; exact ⟨by omega, by omega⟩)
        try clear NB
        try have NB := NN
        try clear NN
        have MW : Hid (ChkV w2 (fun b => w.heap.size < b ∧ b < w2.heap.size) A2 200 cap2 (zs.drop 32)) := M0.out.mono (fun b hb => by have h2 := KC.out.size; exact ⟨by omega, hb.2⟩)
        have KD := Lib.hid (KC.out.trans kx (T := None) (fun _ h => h) (fun _ _ h => h))
        clear KC kx o2 M0
        have KC := KD
        clear KD
        go_wp2
        refine MixK.on (InS.mk ((mH.out _).2 (⟨(CB.out _ KC.out).1.1, (CB.out _ KC.out).1.2, AR.out _, (CB.out _ KC.out).2.1⟩))) ?_
        refine wpMix_seg 1 (by kernel_rfl) (by decide) ?_
        simp only [List.take_succ_cons, List.take_zero, List.drop_succ_cons, List.drop_zero, Nat.reduceSub]
        repeat (first | go_big_quiet_step (fail) | (go_big_quiet_want; first | refine quiet_arr mk2 rfl rfl rfl (by simp only [Act.put, List.setIfInBounds_toArray, List.set_cons_succ, List.set_cons_zero]; rfl) ?_; go_big_quiet_on | refine quiet_load mk3 rfl rfl rfl (by simp only [Act.put, List.setIfInBounds_toArray, List.set_cons_succ, List.set_cons_zero]; rfl) ?_; go_big_quiet_on | refine quiet_build (BU.out A2 200 cap2) rfl rfl (by simp [Act.eval]) (by simp only [Act.put, List.setIfInBounds_toArray, List.set_cons_succ, List.set_cons_zero]; rfl) ?_; go_big_quiet_on))
        refine wpQuiet_nil ?_
        refine wpMix_nil ?_
        refine wpPs_cons ?_
        try simp only [List.take_succ_cons, List.take_zero, List.drop_succ_cons, List.drop_zero, Nat.reduceSub]
        refine wpMix_eff (by kernel_rfl) ?_
        go_wp2_with (refine wpList_store_blk (b := nb) (o := 0) (ds := C.cs A2 200 cap2) NB.out (by rw [CL.out]; decide) (Chk.cs_one _ _ _ _) rfl rfl rfl rfl (by rw [CL.out]; exact chk_size) ?_)
        intro w3 b3 k3
        rw [splice_all (by rw [CL.out]; rfl)] at b3
        have N3 := Lib.hid b3
        have K3 : Hid (Keeps None wb w3) := KC.out.trans k3 (fun _ h => h) (fun b hb e => absurd e (by have := NBL.out; omega))
        have R3 : Hid (Blk w3 w.heap.size (chk0.cs none 0 0) 29) := K3.out.blk RB.out (fun h => h)
        have M3 : Hid (ChkV w3 (fun b => w.heap.size < b ∧ ¬ b = nb) A2 200 cap2 (zs.drop 32)) := MV.out.keeps k3 (fun b hb e => hb.2 e)
        clear b3 k3 NB KC
        go_wp2
        refine MixK.on (InS.mk ((mH.out _).2 (⟨(CB.out _ K3.out).1.1, (CB.out _ K3.out).1.2, AR.out _, (CB.out _ K3.out).2.1⟩))) ?_
        refine wpMix_nil ?_
        refine wpPs_nil ?_
        clear mk0 mk1 mk2 mk3 mn mH
        go_wp2_with (refine wpList_load_blk (b := nb) (o := 0) (ds := C.cs A2 200 cap2) N3.out (fun j v hv => by rw [Nat.zero_add]; exact hv) rfl rfl rfl Try.underlying29 rfl (by rw [CL.out]; exact chk_size) ?_)
        go_wp2_with fail
        refine (PUT.out _ _ _ M3.out.b).mono ?_
        rintro e w4 ⟨v4, rfl, o4, k4⟩
        obtain ⟨A4, c4, rfl, bs4, -⟩ := o4.shape
        have K4 := Lib.hid (K3.out.trans k4 (T := None) (fun _ h => h) (fun _ _ h => h))
        have N4 := Lib.hid (k4.blk N3.out (fun h => h))
        have R4 := Lib.hid (k4.blk R3.out (fun h => h))
        have M4 := Lib.hid (M3.out.later k4)
        have EQ := Lib.hid (bequal_any _ _ _ _ _ _ _ _ w4 bs4 (CB.out _ K4.out).2.2)
        clear o4 k4 bs4 K3 N3 R3 M3
        go_wp2_with fail
        refine EQ.out.mono ?_
        rintro e w5 ⟨rfl, rfl⟩
        by_cases hq : chkL C = zs
        · rw [decide_eq_true hq]
          rw [if_pos hq] at GC
          clear EQ
          go_wp2_with (first | (refine wpList_load_blk (b := nb) (o := 0) (ds := C.cs A2 200 cap2) N4.out (fun j v hv => by rw [Nat.zero_add]; exact hv) rfl rfl rfl Try.underlying29 rfl (by rw [CL.out]; exact chk_size) ?_) | (refine wpList_store_blk (b := w.heap.size) (o := 0) (ds := C.cs A2 200 cap2) R4.out (by rw [CL.out]; decide) (Chk.cs_one _ _ _ _) rfl rfl rfl rfl (by rw [CL.out]; exact chk_size) ?_))
          intro w6 b6 k6
          rw [splice_all (by rw [CL.out]; rfl)] at b6
          have B6 := Lib.hid b6
          have M6 := Lib.hid (M4.out.keeps k6 (fun b hb e => by have h1 := hb.1; omega))
          have K6 := Lib.hid ((KB.out.trans K4.out (T := None) (fun _ h => h) (fun _ _ h => h)).trans k6 (T := None) (fun _ h => h) (fun b hb e => absurd e (by omega)))
          clear b6 k6 N4 R4 K4 M4
          go_wp2
          refine bodyPost_ret (cell_res rfl _ B6.out Try.underlying29 rfl (by rw [CL.out]; exact chk_size) rfl rfl) rfl ?_
          exact ⟨A2, 200, cap2, by rw [GC.out]; rfl, by rw [GC.out, HMID.out]; exact M6.out.mono (fun b hb => Nat.le_of_lt hb.1), K6.out⟩
        · rw [decide_eq_false hq]
          rw [if_neg hq] at GC
          clear EQ
          go_wp2_with (refine wpList_store_blk (b := w.heap.size) (o := 0) (ds := chk0.cs none 0 0) R4.out (by decide) (Chk.cs_one _ _ _ _) rfl rfl rfl (by rw [← chk_zero]; rfl) chk_size ?_)
          intro w6 b6 k6
          rw [splice_all rfl] at b6
          have B6 := Lib.hid b6
          have K6 := Lib.hid ((KB.out.trans K4.out (T := None) (fun _ h => h) (fun _ _ h => h)).trans k6 (T := None) (fun _ h => h) (fun b hb e => absurd e (by omega)))
          clear b6 k6 N4 R4 K4 M4
          go_wp2
          refine bodyPost_ret (cell_res rfl _ B6.out Try.underlying29 rfl chk_size rfl rfl) rfl ?_
          exact ⟨none, 0, 0, by rw [GC.out]; rfl, by rw [GC.out]; exact ChkV.nil _ _, K6.out⟩
end Go.Proofs.Ytfldgaiiniknpaa
/- The walks of ledger's blank and with. -/
namespace Go.Proofs.Ytfldgaiiniknpaa
open Go.RowKit

/-- A state's cells. -/
def St.cs (s : St) (A : Option Addr) (n cap : Nat) : List Value := s.c.cs ++ (.bool s.has :: s.k.cs A n cap)
def St.v (s : St) (A : Option Addr) (n cap : Nat) : Value := .agg (s.cs A n cap).toArray
structure St.ok (s : St) : Prop where
  c : s.c.ok
  k : s.k.ok
theorem St.inv.ok {s : St} (h : s.inv) : s.ok := ⟨h.co, h.ko⟩
theorem St.cs_len {s : St} (o : s.ok) (A : Option Addr) (n cap : Nat) : (s.cs A n cap).length = 82 := by simp [St.cs, Com.cs_len o.c, Chk.cs_len o.k]
theorem st0_ok : st0.ok := st0_inv.ok
theorem St.cs_com {s : St} (o : s.ok) (A : Option Addr) (n cap : Nat) (j : Nat) (v : Value) (h : s.c.cs[j]? = some v) : (s.cs A n cap)[j]? = some v := by
  have := (List.getElem?_eq_some_iff.1 h).1
  unfold St.cs
  rw [List.getElem?_append_left this]
  exact h
theorem St.cs_has {s : St} (o : s.ok) (A : Option Addr) (n cap : Nat) : (s.cs A n cap)[68]? = some (.bool s.has) := by
  unfold St.cs
  rw [List.getElem?_append_right (by rw [Com.cs_len o.c]; exact Nat.le_refl _), Com.cs_len o.c]
  rfl
theorem St.cs_chk {s : St} (o : s.ok) (A : Option Addr) (n cap : Nat) (j : Nat) (v : Value) (h : (s.k.cs A n cap)[j]? = some v) : (s.cs A n cap)[69 + j]? = some v := by
  unfold St.cs
  rw [List.getElem?_append_right (by rw [Com.cs_len o.c]; omega), Com.cs_len o.c, show 69 + j - 68 = j + 1 by omega]
  exact h
theorem St.cs_one (s : St) (A : Option Addr) (n cap : Nat) : ∀ v ∈ s.cs A n cap, v.oneCell' = true := by
  intro v hv
  unfold St.cs at hv
  rcases List.mem_append.1 hv with h | h
  · exact Com.cs_one _ v h
  · rcases List.mem_cons.1 h with rfl | h
    · rfl
    · exact Chk.cs_one _ _ _ _ v h
/-- What a function that gives a state answers. -/
def GotSt (w : World) (P : Nat → Prop) (s : St) (e : Ending) (w' : World) : Prop :=
  ∃ A n cap, e = .returned (s.v A n cap) ∧ ChkV w' (fun b => P b ∨ w.heap.size ≤ b) A n cap s.k.mid ∧ Keeps None w w'
theorem cell_res1 {fn : Func} {ty : TypeId} {d : TypeDesc} {p : Tmp} (hr : fn.results = #[.cell p ty]) (tmps : Array Value) {w : World} {g : Nat} {cs : List Value} {T : TypeId} (h : Blk w g cs T)
    (hu : (Try.prog).underlying ty = some d) (hd : d.isRow = true) (hi : ((Try.prog).info? ty).map (·.size) = some cs.length) (h2 : tmps.getD p undef = .pointer (some ⟨g, 0, none⟩)) :
    (results fn tmps).run Try.prog w = .ok (.agg cs.toArray) w := by
  rw [results_cell1 hr, h2]
  have e : (asAddr (.pointer (some ⟨g, 0, none⟩))).run Try.prog w = .ok ⟨g, 0, none⟩ w := rfl
  rw [e]
  simp only [Result.andThen]
  exact run_loadVar_mid w g 0 ty cs d (blk_range h (fun j v hv => by rw [Nat.zero_add]; exact hv)) hu hd hi
section
variable {ops : Array Oper} {rest : List Oper} {op : Oper} {a : Act} {w : World} {Q : Exit → Act → World → Prop}
theorem wpList_build_run {t : TypeId} {ps : Array (Nat × Operand)} {vs : Array (Nat × Value)} {cells : Array Value} (hm : (Try.prog).built t vs.toList = some cells) (hgd : op.guard = none) (ho : op.op = .build t ps) (he : (ps.map fun (i, x) => (i, a.eval x)) = vs)
    (hn : wpList Try.prog ops Q rest (a.put op.dst (.agg cells)) w) : wpList Try.prog ops Q (op :: rest) a w := by
  refine wpList_plain hgd fun K hK => ?_
  unfold Oper.wp execOp
  simp only [ho, he, Sem.run_bind, run_build w t vs cells hm, Result.andThen_ok]
  exact hK _ _ hn
end
theorem st_size : (Try.prog.info? 39).map (·.size) = some 82 := by kernel_rfl
theorem built_none : (Try.prog).built 25 #[(0, .int .i64 (-1))].toList = some st0.c.cs.toArray := by kernel_rfl
def stZ : St := ⟨com0, false, chk0⟩
theorem st_zero : Try.zeroCells39 = (stZ.cs none 0 0).toArray := by kernel_rfl
theorem stZ_ok : stZ.ok := ⟨com0_ok, chk0_ok⟩
theorem built_st0 (parts : List (Nat × Value)) : (Try.prog).built 39 parts = Instr.fill (fun x => [(0, 68), (68, 1), (69, 13)].toArray[x]?) (stZ.cs none 0 0).toArray parts := by kernel_rfl
theorem built_st {c : Com} (h : c.ok) : (Try.prog).built 39 #[(0, .agg c.cs.toArray)].toList = some ((⟨c, false, chk0⟩ : St).cs none 0 0).toArray := by
  rw [built_st0]
  show Instr.fill _ _ [(0, .agg c.cs.toArray)] = _
  rw [fill_splice (off := 0) (size := 68) (ds := c.cs) rfl rfl (Com.cs_len h) (by rw [St.cs_len stZ_ok]; decide)]
  unfold Instr.fill
  congr 2
  have e : com0.cs.length = c.cs.length := by rw [Com.cs_len com0_ok, Com.cs_len h]
  simp only [splice, St.cs, stZ, List.take_zero, List.nil_append, Nat.zero_add]
  rw [← e, List.drop_left]
set_option maxRecDepth 100000 in
set_option maxHeartbeats 1600000 in
theorem lgblank_any (w : World) : Calls Try.prog 42 #[] w (GotSt w (fun _ => False) st0) := by
  have NW := Lib.hid (Blk.new w (stZ.cs none 0 0) 39)
  have KW : Hid (Keeps None w (w.alloc (.cells (stZ.cs none 0 0).toArray 39))) := (Keeps.refl None w).alloc _
  rw [← st_zero] at NW KW
  go_enter Try.func42, Try.ntmps42
  go_wp2_with (first | (refine wpList_build_run built_none rfl rfl (by simp [Act.eval, Act.put]) ?_) | (refine wpList_build_run (built_st st0_ok.c) rfl rfl (by simp [Act.eval, Act.put]) ?_) | (refine wpList_store_blk (b := w.heap.size) (o := 0) (ds := st0.cs none 0 0) NW.out (by rw [St.cs_len st0_ok, St.cs_len stZ_ok]; decide) (St.cs_one _ _ _ _) rfl rfl rfl rfl (by rw [St.cs_len st0_ok]; exact st_size) ?_))
  intro w' hb hk
  rw [splice_all (by rw [St.cs_len st0_ok, St.cs_len stZ_ok])] at hb
  have HB := Lib.hid hb
  have HK := Lib.hid (KW.out.trans hk (T := None) (fun _ h => h) (fun b hb e => absurd e (by omega)))
  clear hb hk NW KW
  go_wp2
  refine bodyPost_ret (cell_res1 rfl _ HB.out Try.underlying39 rfl (by rw [St.cs_len st0_ok]; exact st_size) rfl) rfl ?_
  exact ⟨none, 0, 0, rfl, ChkV.nil _ _, HK.out⟩
theorem St.cs_chg {s : St} (o : s.ok) (A : Option Addr) (n cap : Nat) (h : Bool) {k : Chk} (ok : k.ok) (A' : Option Addr) (n' cap' : Nat) : splice ((s.cs A n cap).set 68 (.bool h)) 69 (k.cs A' n' cap') = ({ s with has := h, k := k } : St).cs A' n' cap' := by
  have l1 := Com.cs_len o.c
  have l2 := Chk.cs_len o.k A n cap
  have l3 := Chk.cs_len ok A' n' cap'
  have e : (s.cs A n cap).set 68 (.bool h) = (s.c.cs ++ [.bool h]) ++ s.k.cs A n cap := by
    unfold St.cs
    rw [List.set_append_right _ _ (by omega), l1]
    simp
  rw [e]
  simp only [splice]
  rw [List.take_left' (by simp [l1]), List.drop_eq_nil_of_le (by simp [l1, l2, l3])]
  simp [St.cs]
set_option maxRecDepth 100000 in
set_option maxHeartbeats 6400000 in
theorem lgwith_any (s : St) (os : s.ok) (A : Option Addr) (n cap : Nat) (P : Nat → Prop) (rk rseq : Int) (rA : Option Addr) (rn rc : Nat) (body : List Int) (w : World) (hk : ChkV w P A n cap s.k.mid) (hb : Bs w rA rn rc body) :
    Calls Try.prog 43 #[s.v A n cap, .agg #[.int .i64 rk, .int .i64 rseq, .slice rA rn rc]] w (GotSt w P (stepS s ⟨rk, rseq, body⟩)) := by
  have OS := Lib.hid os
  have HB := Lib.hid hb
  have HM := Lib.hid hk
  obtain ⟨w3, hw3⟩ : ∃ x, ((w.alloc (.cells (s.cs A n cap).toArray 39)).alloc (.cells #[.int .i64 rk, .int .i64 rseq, .slice rA rn rc] 58)).alloc (.cells Try.zeroCells39 39) = x := ⟨_, rfl⟩
  have SB : Hid (Blk w3 w.heap.size (s.cs A n cap) 39) := by rw [← hw3]; exact ((Blk.new w (s.cs A n cap) 39).alloc _).alloc _
  have XB : Hid (Blk w3 (w.heap.size + 1) [.int .i64 rk, .int .i64 rseq, .slice rA rn rc] 58) := by
    rw [← hw3]
    have h := (Blk.new (w.alloc (.cells (s.cs A n cap).toArray 39)) [.int .i64 rk, .int .i64 rseq, .slice rA rn rc] 58).alloc (.cells Try.zeroCells39 39)
    rw [show (w.alloc (.cells (s.cs A n cap).toArray 39)).heap.size = w.heap.size + 1 by simp] at h
    exact h
  have RB : Hid (Blk w3 (w.heap.size + 1 + 1) (stZ.cs none 0 0) 39) := by
    rw [← hw3, st_zero]
    have h := Blk.new ((w.alloc (.cells (s.cs A n cap).toArray 39)).alloc (.cells #[.int .i64 rk, .int .i64 rseq, .slice rA rn rc] 58)) (stZ.cs none 0 0) 39
    rw [show ((w.alloc (.cells (s.cs A n cap).toArray 39)).alloc (.cells #[.int .i64 rk, .int .i64 rseq, .slice rA rn rc] 58)).heap.size = w.heap.size + 1 + 1 by simp] at h
    exact h
  have KB : Hid (Keeps None w w3) := by rw [← hw3]; exact (((Keeps.refl None w).alloc _).alloc _).alloc _
  have S3 : w3.heap.size = w.heap.size + 1 + 1 + 1 := by rw [← hw3]; simp
  unfold St.v
  obtain ⟨V, hV⟩ : ∃ V, (s.cs A n cap).toArray = V := ⟨_, rfl⟩
  rw [hV] at hw3 ⊢
  have HV := Lib.hid hV
  have x0 := XB.out.cellD 0 _ rfl
  have x2 := XB.out.cellD 2 _ rfl
  clear hV os hk hb
  by_cases q2 : rk = 2
  · subst q2
    have GET := Lib.hid (fun w h => lggetc_any rA rn rc body w h)
    have GO : Hid ((getCom body).1.ok) := by
      show (getCom body).1.ok
      unfold getCom
      split
      · rename_i h; exact comP_ok HB.out.byte h.1
      · exact com0_ok
    have EQ : Hid (stepS s ⟨2, rseq, body⟩ = if (getCom body).2 = true then ⟨{ (getCom body).1 with fl := max (getCom body).1.fl s.c.fl }, false, chk0⟩ else s) := by show stepS _ _ = _; unfold stepS; simp
    obtain ⟨G, hG⟩ : ∃ G, (getCom body).1 = G := ⟨_, rfl⟩
    obtain ⟨ok, hok⟩ : ∃ b, (getCom body).2 = b := ⟨_, rfl⟩
    rw [hG, hok] at EQ GET
    rw [hG] at GO
    clear hG hok
    unfold Com.v at GET
    go_enter Try.func43, Try.ntmps43
    go_wp2_with fail
    refine (GET.out _ (HB.out.keeps KB.out (fun _ _ _ _ _ h => h))).mono ?_
    rintro e w4 ⟨rfl, k4⟩
    have NW := Lib.hid (Blk.new w4 com0.cs 25)
    have KW : Hid (Keeps None w4 (w4.alloc (.cells com0.cs.toArray 25))) := (Keeps.refl None w4).alloc _
    have K4 := Lib.hid k4
    have S4 : w.heap.size + 1 + 1 + 1 ≤ w4.heap.size := by have := k4.size; omega
    rw [← com_zero] at NW KW
    clear k4 x0 x2 GET
    go_wp2_with (refine wpList_store_blk (b := w4.heap.size) (o := 0) (ds := G.cs) NW.out (by rw [Com.cs_len GO.out]; decide) (Com.cs_one _) rfl rfl rfl rfl (by rw [Com.cs_len GO.out]; exact com_size) ?_)
    intro w5 b5 k5
    rw [splice_all (by rw [Com.cs_len GO.out]; rfl)] at b5
    have GB := Lib.hid b5
    have K45 := Lib.hid (KW.out.trans k5 (T := None) (fun _ h => h) (fun b hb e => absurd e (by omega)))
    have K35 := Lib.hid (K4.out.trans K45.out (T := None) (fun _ h => h) (fun _ _ h => h))
    have SB5 := Lib.hid (K35.out.blk SB.out (fun h => h))
    have RB5 := Lib.hid (K35.out.blk RB.out (fun h => h))
    have KB5 := Lib.hid (KB.out.trans K35.out (T := None) (fun _ h => h) (fun _ _ h => h))
    clear b5 k5 NW KW K4 K45
    have c2 := GB.out.cellD 2 _ rfl
    have f2 := GB.out.frozen 2
    have s2 := SB5.out.cellD 2 _ (St.cs_com OS.out A n cap 2 _ rfl)
    cases ok with
    | true =>
      have EQ2 : Hid (stepS s ⟨2, rseq, body⟩ = ⟨⟨G.slot, G.ver, max G.fl s.c.fl, G.len, G.me⟩, false, chk0⟩) := EQ.out
      by_cases hm : G.fl < s.c.fl
      · skip
        have M2 : max G.fl s.c.fl = s.c.fl := by omega
        rw [M2] at EQ2
        obtain ⟨C, hC⟩ : ∃ C : Com, (⟨G.slot, G.ver, s.c.fl, G.len, G.me⟩ : Com) = C := ⟨_, rfl⟩
        have CO : Hid C.ok := by show C.ok; rw [← hC]; exact ⟨GO.out.v, (by have := GO.out.f; have := OS.out.c.f; show s.c.fl < _; omega), GO.out.ml, GO.out.mb⟩
        have GB2 : Hid (Blk (w5.setCell ⟨w4.heap.size, 2, none⟩ (.int .u64 ((s.c.fl : Nat) : Int))) w4.heap.size C.cs 25) := by rw [← hC]; exact GB.out.set 2 (.int .u64 ((s.c.fl : Nat) : Int))
        have RB6 := Lib.hid (RB5.out.setOther ⟨w4.heap.size, 2, none⟩ (.int .u64 ((s.c.fl : Nat) : Int)) (show ¬ w.heap.size + 1 + 1 = w4.heap.size by omega))
        have KB6 := Lib.hid (KB5.out.setCell ⟨w4.heap.size, 2, none⟩ (.int .u64 ((s.c.fl : Nat) : Int)) (fun h => absurd (show w4.heap.size < w.heap.size from h) (by omega)))
        have OS2 : Hid ((⟨C, false, chk0⟩ : St).ok) := ⟨CO.out, chk0_ok⟩
        have BS2 := Lib.hid (built_st CO.out)
        rw [hC] at EQ2
        clear hC M2
        go_wp2_with (first | (refine wpList_load_blk (b := w4.heap.size) (o := 0) (ds := C.cs) GB2.out (fun j v hv => by rw [Nat.zero_add]; exact hv) rfl rfl rfl Try.underlying25 rfl (by rw [Com.cs_len CO.out]; exact com_size) ?_) | (refine wpList_build_run BS2.out rfl rfl (by simp [Act.eval, Act.put]) ?_) | (refine wpList_store_blk (b := w.heap.size + 1 + 1) (o := 0) (ds := (⟨C, false, chk0⟩ : St).cs none 0 0) RB6.out (by rw [St.cs_len OS2.out, St.cs_len stZ_ok]; decide) (St.cs_one _ _ _ _) rfl rfl rfl rfl (by rw [St.cs_len OS2.out]; exact st_size) ?_))
        intro wz hbz hkz
        rw [splice_all (by rw [St.cs_len OS2.out, St.cs_len stZ_ok])] at hbz
        have HBZ := Lib.hid hbz
        have HKZ := Lib.hid (KB6.out.trans hkz (T := None) (fun _ h => h) (fun b hb e => absurd e (by omega)))
        clear hbz hkz c2 f2 s2
        go_wp2
        refine bodyPost_ret (cell_res1 rfl _ HBZ.out Try.underlying39 rfl (by rw [St.cs_len OS2.out]; exact st_size) rfl) rfl ?_
        exact ⟨none, 0, 0, by rw [EQ2.out]; rfl, by rw [EQ2.out]; exact ChkV.nil _ _, HKZ.out⟩
      · skip
        have M2 : max G.fl s.c.fl = G.fl := by omega
        rw [M2] at EQ2
        obtain ⟨C, hC⟩ : ∃ C : Com, (⟨G.slot, G.ver, G.fl, G.len, G.me⟩ : Com) = C := ⟨_, rfl⟩
        have CO : Hid C.ok := by show C.ok; rw [← hC]; exact ⟨GO.out.v, (by have := GO.out.f; have := OS.out.c.f; show G.fl < _; omega), GO.out.ml, GO.out.mb⟩
        have GB2 : Hid (Blk (w5.setCell ⟨w4.heap.size, 2, none⟩ (.int .u64 ((G.fl : Nat) : Int))) w4.heap.size C.cs 25) := by rw [← hC]; exact GB.out.set 2 (.int .u64 ((G.fl : Nat) : Int))
        have RB6 := Lib.hid (RB5.out.setOther ⟨w4.heap.size, 2, none⟩ (.int .u64 ((G.fl : Nat) : Int)) (show ¬ w.heap.size + 1 + 1 = w4.heap.size by omega))
        have KB6 := Lib.hid (KB5.out.setCell ⟨w4.heap.size, 2, none⟩ (.int .u64 ((G.fl : Nat) : Int)) (fun h => absurd (show w4.heap.size < w.heap.size from h) (by omega)))
        have OS2 : Hid ((⟨C, false, chk0⟩ : St).ok) := ⟨CO.out, chk0_ok⟩
        have BS2 := Lib.hid (built_st CO.out)
        rw [hC] at EQ2
        clear hC M2
        go_wp2_with (first | (refine wpList_load_blk (b := w4.heap.size) (o := 0) (ds := C.cs) GB2.out (fun j v hv => by rw [Nat.zero_add]; exact hv) rfl rfl rfl Try.underlying25 rfl (by rw [Com.cs_len CO.out]; exact com_size) ?_) | (refine wpList_build_run BS2.out rfl rfl (by simp [Act.eval, Act.put]) ?_) | (refine wpList_store_blk (b := w.heap.size + 1 + 1) (o := 0) (ds := (⟨C, false, chk0⟩ : St).cs none 0 0) RB6.out (by rw [St.cs_len OS2.out, St.cs_len stZ_ok]; decide) (St.cs_one _ _ _ _) rfl rfl rfl rfl (by rw [St.cs_len OS2.out]; exact st_size) ?_))
        intro wz hbz hkz
        rw [splice_all (by rw [St.cs_len OS2.out, St.cs_len stZ_ok])] at hbz
        have HBZ := Lib.hid hbz
        have HKZ := Lib.hid (KB6.out.trans hkz (T := None) (fun _ h => h) (fun b hb e => absurd e (by omega)))
        clear hbz hkz c2 f2 s2
        go_wp2
        refine bodyPost_ret (cell_res1 rfl _ HBZ.out Try.underlying39 rfl (by rw [St.cs_len OS2.out]; exact st_size) rfl) rfl ?_
        exact ⟨none, 0, 0, by rw [EQ2.out]; rfl, by rw [EQ2.out]; exact ChkV.nil _ _, HKZ.out⟩
    | false =>
      -- region 13: the state as it stands, into the result; s the state, A n cap its slice, SB5 the state's block, RB5 the result's, KB5 keeping, (HM.out.lt.later KB5.out) what is known of the checkpoint, (by have h1 := hb.2; omega) why the checkpoint's bytes are not there, OS the state's fact OK
      go_wp2_with (first | (refine wpList_load_blk (b := w.heap.size) (o := 0) (ds := St.cs s A n cap) SB5.out (fun j v hv => by rw [Nat.zero_add]; exact hv) rfl rfl rfl Try.underlying39 rfl (by rw [St.cs_len OS.out]; exact st_size) ?_) | (refine wpList_store_blk (b := w.heap.size + 1 + 1) (o := 0) (ds := St.cs s A n cap) RB5.out (by rw [St.cs_len OS.out, St.cs_len stZ_ok]; decide) (St.cs_one _ _ _ _) rfl rfl rfl rfl (by rw [St.cs_len OS.out]; exact st_size) ?_))
      intro wz hbz hkz
      rw [splice_all (by rw [St.cs_len OS.out, St.cs_len stZ_ok])] at hbz
      have HBZ := Lib.hid hbz
      have HKZ := Lib.hid (KB5.out.trans hkz (T := None) (fun _ h => h) (fun b hb e => absurd e (by omega)))
      have HMZ := Lib.hid ((HM.out.lt.later KB5.out).keeps hkz (fun b hb e => (by have h1 := hb.2; omega)))
      clear hbz hkz
      go_wp2
      refine bodyPost_ret (cell_res1 rfl _ HBZ.out Try.underlying39 rfl (by rw [St.cs_len OS.out]; exact st_size) rfl) rfl ?_
      exact ⟨A, n, cap, by rw [EQ.out]; rfl, by rw [EQ.out]; exact HMZ.out.mono (fun b hb => .inl hb.1), HKZ.out⟩
  have d2 : (rk == 2) = false := by simpa using q2
  by_cases q3 : rk = 3
  · subst q3
    have GET := Lib.hid (fun w h => lggetk_any rA rn rc body w h)
    have GO : Hid ((getChk body).1.ok) := by
      show (getChk body).1.ok
      unfold getChk
      split
      · rename_i h; exact chkP_ok HB.out.byte h.1
      · exact chk0_ok
    have EQ : Hid (stepS s ⟨3, rseq, body⟩ = if (getChk body).2 = true then { s with has := true, k := (getChk body).1 } else s) := by show stepS _ _ = _; unfold stepS; simp
    unfold GotChk at GET
    obtain ⟨G, hG⟩ : ∃ G, (getChk body).1 = G := ⟨_, rfl⟩
    obtain ⟨ok, hok⟩ : ∃ b, (getChk body).2 = b := ⟨_, rfl⟩
    rw [hG, hok] at EQ GET
    rw [hG] at GO
    clear hG hok
    unfold Chk.v at GET
    go_enter Try.func43, Try.ntmps43
    go_wp2_with fail
    refine (GET.out _ (HB.out.keeps KB.out (fun _ _ _ _ _ h => h))).mono ?_
    rintro e w4 ⟨gA, gn, gc, rfl, m4, k4⟩
    have M4 := Lib.hid m4
    have NW := Lib.hid (Blk.new w4 (chk0.cs none 0 0) 29)
    have KW : Hid (Keeps None w4 (w4.alloc (.cells (chk0.cs none 0 0).toArray 29))) := (Keeps.refl None w4).alloc _
    have K4 := Lib.hid k4
    have S4 : w.heap.size + 1 + 1 + 1 ≤ w4.heap.size := by have := k4.size; omega
    rw [← chk_zero] at NW KW
    clear m4 k4 x0 x2 GET
    go_wp2_with (refine wpList_store_blk (b := w4.heap.size) (o := 0) (ds := G.cs gA gn gc) NW.out (by rw [Chk.cs_len GO.out]; decide) (Chk.cs_one _ _ _ _) rfl rfl rfl rfl (by rw [Chk.cs_len GO.out]; exact chk_size) ?_)
    intro w5 b5 k5
    rw [splice_all (by rw [Chk.cs_len GO.out]; rfl)] at b5
    have GB := Lib.hid b5
    have K45 := Lib.hid (KW.out.trans k5 (T := None) (fun _ h => h) (fun b hb e => absurd e (by omega)))
    have K35 := Lib.hid (K4.out.trans K45.out (T := None) (fun _ h => h) (fun _ _ h => h))
    have SB5 := Lib.hid (K35.out.blk SB.out (fun h => h))
    have RB5 := Lib.hid (K35.out.blk RB.out (fun h => h))
    have KB5 := Lib.hid (KB.out.trans K35.out (T := None) (fun _ h => h) (fun _ _ h => h))
    have M5 := Lib.hid (M4.out.lt.keeps K45.out (fun _ _ h => h))
    clear b5 k5 NW KW K4 K45 M4
    cases ok with
    | true =>
      have OS2 : Hid (({ s with has := true, k := G } : St).ok) := ⟨OS.out.c, GO.out⟩
      go_wp2
      have f68 := SB5.out.drew.frozen 68
      have x68 := SB5.out.drew.cellD 68 _ (St.cs_has OS.out A n cap)
      have LDC : Hid (∀ w', Keeps (fun k => k = w.heap.size) w5 w' → (Instr.loadAt 29 (.pointer (some ⟨w4.heap.size, 0, none⟩))).run Try.prog w' = .ok (.agg (G.cs gA gn gc).toArray) w') := fun w' k =>
        run_loadAt_mid w' w4.heap.size 0 29 (G.cs gA gn gc) _ (blk_range (k.blk GB.out (by omega)) (fun j v hv => by rw [Nat.zero_add]; exact hv)) Try.underlying29 rfl (by rw [Chk.cs_len GO.out]; exact chk_size)
      have K5r := Lib.hid (Keeps.refl (fun k => k = w.heap.size) w5)
      have SB6 := Lib.hid (SB5.out.set 68 (.bool true)).drew
      have K56 := Lib.hid (K5r.out.setCell ⟨w.heap.size, 68, none⟩ (.bool true) (fun _ => rfl)).drew
      obtain ⟨mS, mh⟩ : ∃ S : World → Prop, ∀ w', S w' ↔ (((Instr.loadAt 29 (.pointer (some ⟨w4.heap.size, 0, none⟩))).run Try.prog w' = .ok (.agg (G.cs gA gn gc).toArray) w')) := ⟨_, fun _ => Iff.rfl⟩
      have mk0 : ∀ x : Memb mS, (Instr.loadAt 29 (.pointer (some ⟨w4.heap.size, 0, none⟩))).run Try.prog x.at_ = .ok (.agg (G.cs gA gn gc).toArray) x.at_ := fun x => ((mh _).1 x.is)
      have mn : Nonempty (Memb mS) := ⟨⟨(w5).drew, (mh _).2 (LDC.out _ K5r.out.drew)⟩⟩
      have mH := Lib.hid mh
      clear mh
      refine wp_region_mix [2, 4] (InS mS) (by kernel_rfl) (by kernel_rfl) (InS.mk ((mH.out _).2 (LDC.out _ K5r.out.drew))) ?_
      refine wpMix_seg 2 (by kernel_rfl) (by decide) ?_
      simp only [List.take_succ_cons, List.take_zero, List.drop_succ_cons, List.drop_zero]
      repeat (first | go_big_quiet_step (fail) | (go_big_quiet_want; first | refine quiet_load mk0 rfl rfl rfl (by simp only [Act.put, List.setIfInBounds_toArray, List.set_cons_succ, List.set_cons_zero]; rfl) ?_; go_big_quiet_on | refine quiet_build BU.out rfl rfl (by simp [Act.eval]) (by simp only [Act.put, List.setIfInBounds_toArray, List.set_cons_succ, List.set_cons_zero]; rfl) ?_; go_big_quiet_on))
      refine wpQuiet_nil ?_
      refine wpMix_eff (by kernel_rfl) ?_
      go_wp2
      refine MixK.on (InS.mk ((mH.out _).2 (LDC.out _ K56.out))) ?_
      refine wpMix_seg 1 (by kernel_rfl) (by decide) ?_
      simp only [List.take_succ_cons, List.take_zero, List.drop_succ_cons, List.drop_zero]
      repeat (first | go_big_quiet_step (fail) | (go_big_quiet_want; first | refine quiet_load mk0 rfl rfl rfl (by simp only [Act.put, List.setIfInBounds_toArray, List.set_cons_succ, List.set_cons_zero]; rfl) ?_; go_big_quiet_on | refine quiet_build BU.out rfl rfl (by simp [Act.eval]) (by simp only [Act.put, List.setIfInBounds_toArray, List.set_cons_succ, List.set_cons_zero]; rfl) ?_; go_big_quiet_on))
      refine wpQuiet_nil ?_
      refine wpMix_eff (by kernel_rfl) ?_
      go_wp2_with (refine wpList_store_blk (b := w.heap.size) (o := 69) (ds := G.cs gA gn gc) SB6.out (by rw [List.length_set, St.cs_len OS.out, Chk.cs_len GO.out]; decide) (Chk.cs_one _ _ _ _) rfl rfl rfl rfl (by rw [Chk.cs_len GO.out]; exact chk_size) ?_)
      intro w6 b6 k6
      rw [St.cs_chg OS.out A n cap true GO.out gA gn gc] at b6
      have SB7 := Lib.hid b6
      have K57 := Lib.hid (K56.out.trans k6 (fun _ h => h) (fun _ _ h => h))
      clear b6 k6
      go_wp2
      refine MixK.on (InS.mk ((mH.out _).2 (LDC.out _ K57.out))) ?_
      refine wpMix_nil ?_
      clear mk0 mn mH
      have RB7 := Lib.hid (K57.out.blk RB5.out (by omega))
      have KB7 := Lib.hid (KB5.out.trans K57.out (T := None) (fun _ h => h) (fun b hb e => absurd e (by omega)))
      have M7 := Lib.hid (M5.out.keeps K57.out (fun b hb e => by have h1 := hb.1; omega))
      clear SB6 K56 f68 x68 LDC
      -- region 13: the state as it stands, into the result; ({ s with has := true, k := G } : St) the state, gA gn gc its slice, SB7 the state's block, RB7 the result's, KB7 keeping, M7.out what is known of the checkpoint, (by have h1 := hb.1; omega) why the checkpoint's bytes are not there, OS2 the state's fact OK
      go_wp2_with (first | (refine wpList_load_blk (b := w.heap.size) (o := 0) (ds := St.cs ({ s with has := true, k := G } : St) gA gn gc) SB7.out (fun j v hv => by rw [Nat.zero_add]; exact hv) rfl rfl rfl Try.underlying39 rfl (by rw [St.cs_len OS2.out]; exact st_size) ?_) | (refine wpList_store_blk (b := w.heap.size + 1 + 1) (o := 0) (ds := St.cs ({ s with has := true, k := G } : St) gA gn gc) RB7.out (by rw [St.cs_len OS2.out, St.cs_len stZ_ok]; decide) (St.cs_one _ _ _ _) rfl rfl rfl rfl (by rw [St.cs_len OS2.out]; exact st_size) ?_))
      intro wz hbz hkz
      rw [splice_all (by rw [St.cs_len OS2.out, St.cs_len stZ_ok])] at hbz
      have HBZ := Lib.hid hbz
      have HKZ := Lib.hid (KB7.out.trans hkz (T := None) (fun _ h => h) (fun b hb e => absurd e (by omega)))
      have HMZ := Lib.hid (M7.out.keeps hkz (fun b hb e => (by have h1 := hb.1; omega)))
      clear hbz hkz
      go_wp2
      refine bodyPost_ret (cell_res1 rfl _ HBZ.out Try.underlying39 rfl (by rw [St.cs_len OS2.out]; exact st_size) rfl) rfl ?_
      exact ⟨gA, gn, gc, by rw [EQ.out]; rfl, by rw [EQ.out]; exact HMZ.out.mono (fun b hb => .inr (by have h1 := hb.1; omega)), HKZ.out⟩
    | false =>
      -- region 13: the state as it stands, into the result; s the state, A n cap its slice, SB5 the state's block, RB5 the result's, KB5 keeping, (HM.out.lt.later KB5.out) what is known of the checkpoint, (by have h1 := hb.2; omega) why the checkpoint's bytes are not there, OS the state's fact OK
      go_wp2_with (first | (refine wpList_load_blk (b := w.heap.size) (o := 0) (ds := St.cs s A n cap) SB5.out (fun j v hv => by rw [Nat.zero_add]; exact hv) rfl rfl rfl Try.underlying39 rfl (by rw [St.cs_len OS.out]; exact st_size) ?_) | (refine wpList_store_blk (b := w.heap.size + 1 + 1) (o := 0) (ds := St.cs s A n cap) RB5.out (by rw [St.cs_len OS.out, St.cs_len stZ_ok]; decide) (St.cs_one _ _ _ _) rfl rfl rfl rfl (by rw [St.cs_len OS.out]; exact st_size) ?_))
      intro wz hbz hkz
      rw [splice_all (by rw [St.cs_len OS.out, St.cs_len stZ_ok])] at hbz
      have HBZ := Lib.hid hbz
      have HKZ := Lib.hid (KB5.out.trans hkz (T := None) (fun _ h => h) (fun b hb e => absurd e (by omega)))
      have HMZ := Lib.hid ((HM.out.lt.later KB5.out).keeps hkz (fun b hb e => (by have h1 := hb.2; omega)))
      clear hbz hkz
      go_wp2
      refine bodyPost_ret (cell_res1 rfl _ HBZ.out Try.underlying39 rfl (by rw [St.cs_len OS.out]; exact st_size) rfl) rfl ?_
      exact ⟨A, n, cap, by rw [EQ.out]; rfl, by rw [EQ.out]; exact HMZ.out.mono (fun b hb => .inl hb.1), HKZ.out⟩
  have d3 : (rk == 3) = false := by simpa using q3
  by_cases q4 : rk = 4
  · subst q4
    have EQ : Hid (stepS s ⟨4, rseq, body⟩ = { s with has := false, k := chk0 }) := by show stepS _ _ = _; unfold stepS; simp
    have OS2 : Hid (({ s with has := false, k := chk0 } : St).ok) := ⟨OS.out.c, chk0_ok⟩
    have x68 := SB.out.cellD 68 _ (St.cs_has OS.out A n cap)
    have f68 := SB.out.frozen 68
    have SB4 := Lib.hid (SB.out.set 68 (.bool false))
    go_enter Try.func43, Try.ntmps43
    go_wp2_with (refine wpList_store_blk (b := w.heap.size) (o := 69) (ds := chk0.cs none 0 0) SB4.out (by rw [List.length_set, St.cs_len OS.out]; decide) (Chk.cs_one _ _ _ _) rfl rfl rfl rfl chk_size ?_)
    intro w5 b5 k5
    rw [St.cs_chg OS.out A n cap false chk0_ok none 0 0] at b5
    have SB5 := Lib.hid b5
    have K35 : Hid (Keeps (fun k => k = w.heap.size) w3 w5) := ((Keeps.refl (fun k => k = w.heap.size) w3).setCell ⟨w.heap.size, 68, none⟩ (.bool false) (fun _ => rfl)).trans k5 (fun _ h => h) (fun _ _ h => h)
    have RB5 := Lib.hid (K35.out.blk RB.out (by omega))
    have KB5 := Lib.hid (KB.out.trans K35.out (T := None) (fun _ h => h) (fun b hb e => absurd e (by omega)))
    clear b5 k5 SB4 x0 x2 x68 f68
    -- region 13: the state as it stands, into the result; ({ s with has := false, k := chk0 } : St) the state, none 0 0 its slice, SB5 the state's block, RB5 the result's, KB5 keeping, (ChkV.nil w5 (fun b => b < w.heap.size)) what is known of the checkpoint, (by omega) why the checkpoint's bytes are not there, OS2 the state's fact OK
    go_wp2_with (first | (refine wpList_load_blk (b := w.heap.size) (o := 0) (ds := St.cs ({ s with has := false, k := chk0 } : St) none 0 0) SB5.out (fun j v hv => by rw [Nat.zero_add]; exact hv) rfl rfl rfl Try.underlying39 rfl (by rw [St.cs_len OS2.out]; exact st_size) ?_) | (refine wpList_store_blk (b := w.heap.size + 1 + 1) (o := 0) (ds := St.cs ({ s with has := false, k := chk0 } : St) none 0 0) RB5.out (by rw [St.cs_len OS2.out, St.cs_len stZ_ok]; decide) (St.cs_one _ _ _ _) rfl rfl rfl rfl (by rw [St.cs_len OS2.out]; exact st_size) ?_))
    intro wz hbz hkz
    rw [splice_all (by rw [St.cs_len OS2.out, St.cs_len stZ_ok])] at hbz
    have HBZ := Lib.hid hbz
    have HKZ := Lib.hid (KB5.out.trans hkz (T := None) (fun _ h => h) (fun b hb e => absurd e (by omega)))
    have HMZ := Lib.hid ((ChkV.nil w5 (fun b => b < w.heap.size)).keeps hkz (fun b hb e => (by omega)))
    clear hbz hkz
    go_wp2
    refine bodyPost_ret (cell_res1 rfl _ HBZ.out Try.underlying39 rfl (by rw [St.cs_len OS2.out]; exact st_size) rfl) rfl ?_
    exact ⟨none, 0, 0, by rw [EQ.out]; rfl, by rw [EQ.out]; exact ChkV.nil _ _, HKZ.out⟩
  have d4 : (rk == 4) = false := by simpa using q4
  have EQ : Hid (stepS s ⟨rk, rseq, body⟩ = s) := by show stepS _ _ = _; unfold stepS; simp [q2, q3, q4]
  go_enter Try.func43, Try.ntmps43
  -- region 13: the state as it stands, into the result; s the state, A n cap its slice, SB the state's block, RB the result's, KB keeping, (HM.out.lt.later KB.out) what is known of the checkpoint, (by have h1 := hb.2; omega) why the checkpoint's bytes are not there, OS the state's fact OK
  go_wp2_with (first | (refine wpList_load_blk (b := w.heap.size) (o := 0) (ds := St.cs s A n cap) SB.out (fun j v hv => by rw [Nat.zero_add]; exact hv) rfl rfl rfl Try.underlying39 rfl (by rw [St.cs_len OS.out]; exact st_size) ?_) | (refine wpList_store_blk (b := w.heap.size + 1 + 1) (o := 0) (ds := St.cs s A n cap) RB.out (by rw [St.cs_len OS.out, St.cs_len stZ_ok]; decide) (St.cs_one _ _ _ _) rfl rfl rfl rfl (by rw [St.cs_len OS.out]; exact st_size) ?_))
  intro wz hbz hkz
  rw [splice_all (by rw [St.cs_len OS.out, St.cs_len stZ_ok])] at hbz
  have HBZ := Lib.hid hbz
  have HKZ := Lib.hid (KB.out.trans hkz (T := None) (fun _ h => h) (fun b hb e => absurd e (by omega)))
  have HMZ := Lib.hid ((HM.out.lt.later KB.out).keeps hkz (fun b hb e => (by have h1 := hb.2; omega)))
  clear hbz hkz
  go_wp2
  refine bodyPost_ret (cell_res1 rfl _ HBZ.out Try.underlying39 rfl (by rw [St.cs_len OS.out]; exact st_size) rfl) rfl ?_
  exact ⟨A, n, cap, by rw [EQ.out]; rfl, by rw [EQ.out]; exact HMZ.out.mono (fun b hb => .inl hb.1), HKZ.out⟩
end Go.Proofs.Ytfldgaiiniknpaa
/- The walk of ledger's Fold. -/
namespace Go.Proofs.Ytfldgaiiniknpaa
open Go.RowKit

theorem stepS_ok {s : St} (o : s.ok) {r : Rec} (hb : Byt r.b) : (stepS s r).ok := by
  unfold stepS
  split
  · split
    · rename_i h
      obtain ⟨-, a, -, -⟩ := getCom_ok hb h
      exact ⟨⟨a.v, (by have := a.f; have := o.c.f; show max _ _ < _; omega), a.ml, a.mb⟩, chk0_ok⟩
    · exact o
  · split
    · split
      · rename_i h
        obtain ⟨-, a, -, -⟩ := getChk_ok hb h
        exact ⟨o.c, a⟩
      · exact o
    · split
      · exact ⟨o.c, chk0_ok⟩
      · exact o
theorem rec_size : (Try.prog.info? 58).map (·.size) = some 3 := by kernel_rfl
theorem rec_one (k s : Int) (A : Option Addr) (n c : Nat) : ∀ v ∈ [Value.int .i64 k, .int .i64 s, .slice A n c], v.oneCell' = true := by
  intro v hv
  simp only [List.mem_cons, List.not_mem_nil, or_false] at hv
  rcases hv with rfl | rfl | rfl <;> rfl
set_option maxRecDepth 100000 in
set_option maxHeartbeats 3200000 in
theorem lgfold_any (A : Option Addr) (n cap : Nat) (rs : List RV) (P : Nat → Prop) (w : World) (h : Rws w A n cap rs) (hb : Bds w P rs) :
    Calls Try.prog 17 #[.slice A n cap] w (GotSt w (fun _ => False) (foldS (rs.map RV.r))) := by
  have H := Lib.hid h
  have HB := Lib.hid hb
  have HL := Lib.hid h.len
  have hle := h.le
  have hmx := h.max
  have RB0 := Lib.hid (Blk.new w (stZ.cs none 0 0) 39)
  have KB0 : Hid (Keeps None w (w.alloc (.cells (stZ.cs none 0 0).toArray 39))) := (Keeps.refl None w).alloc _
  rw [← st_zero] at RB0 KB0
  have S0 : (w.alloc (.cells Try.zeroCells39 39)).heap.size = w.heap.size + 1 := by simp
  clear h hb
  go_enter Try.func17, Try.ntmps17
  go_wp2_with fail
  refine (lgblank_any _).mono ?_
  rintro e w1 ⟨A1, n1, c1, rfl, m1, k1⟩
  have RB1 := Lib.hid (k1.blk RB0.out (fun h => h))
  have KB1 := Lib.hid (KB0.out.trans k1 (T := None) (fun _ h => h) (fun _ _ h => h))
  have M1 : Hid (ChkV w1 (fun b => w.heap.size < b ∧ b < w1.heap.size) A1 n1 c1 st0.k.mid) := m1.lt.mono (fun b hb => ⟨by rcases hb.1 with h | h; exact absurd h (fun h => h); omega, hb.2⟩)
  have S1 : w.heap.size < w1.heap.size := RB1.out.lt
  have NB1 := Lib.hid (Blk.new w1 (stZ.cs none 0 0) 39)
  have KN1 : Hid (Keeps None w1 (w1.alloc (.cells (stZ.cs none 0 0).toArray 39))) := (Keeps.refl None w1).alloc _
  rw [← st_zero] at NB1 KN1
  unfold St.v
  clear m1 k1 RB0 KB0
  go_wp2_with (refine wpList_store_blk (b := w1.heap.size) (o := 0) (ds := st0.cs A1 n1 c1) NB1.out (by rw [St.cs_len st0_ok, St.cs_len stZ_ok]; decide) (St.cs_one _ _ _ _) rfl rfl rfl rfl (by rw [St.cs_len st0_ok]; exact st_size) ?_)
  intro w2 b2 k2
  rw [splice_all (by rw [St.cs_len st0_ok, St.cs_len stZ_ok])] at b2
  have SB2 := Lib.hid b2
  have K12 := Lib.hid (KN1.out.trans k2 (T := None) (fun _ h => h) (fun b hb e => absurd e (by omega)))
  have KB2 := Lib.hid (KB1.out.trans K12.out (T := None) (fun _ h => h) (fun _ _ h => h))
  have RB2 := Lib.hid (K12.out.blk RB1.out (fun h => h))
  have M2 : Hid (ChkV w2 (fun b => w.heap.size < b ∧ ¬ b = w1.heap.size) A1 n1 c1 st0.k.mid) := (M1.out.mono (fun b hb => ⟨hb.1, Nat.ne_of_lt hb.2⟩)).later K12.out
  obtain ⟨sb, hsb⟩ : ∃ x, w1.heap.size = x := ⟨_, rfl⟩
  rw [hsb] at SB2 M2 S1 ⊢
  clear b2 k2 NB1 KN1 K12 RB1 KB1 M1 hsb S0
  go_wp2
  go_loopw [9] (fun iv wr => ∃ (i : Nat) (s : St) (A' : Option Addr) (n' c' : Nat), i ≤ n ∧ iv = .int .i64 (i : Int) ∧ s.ok ∧ (((rs.map RV.r).drop i).foldl stepS s = foldS (rs.map RV.r)) ∧ Blk wr sb (s.cs A' n' c') 39 ∧ ChkV wr (fun b => w.heap.size < b ∧ ¬ b = sb) A' n' c' s.k.mid ∧ Blk wr w.heap.size (stZ.cs none 0 0) 39 ∧ Keeps None w wr) (fun iv _ => n - (intOf iv).toNat)
  case atStart => exact ⟨0, st0, A1, n1, c1, Nat.zero_le _, rfl, st0_ok, rfl, SB2.out, M2.out, RB2.out, KB2.out⟩
  case round =>
    obtain ⟨i, s, A', n', c', hi, rfl, os, hf, hsbk, hm, hr, hk⟩ := hrel
    obtain ⟨wv, rfl⟩ : ∃ x, x = wr := ⟨_, rfl⟩
    have OS := Lib.hid os
    have HF := Lib.hid hf
    have SB := Lib.hid hsbk
    have HM := Lib.hid hm
    have RB := Lib.hid hr
    have HK := Lib.hid hk
    have SZ : sb < wv.heap.size := hsbk.lt
    clear os hf hsbk hm hr hk SB2 M2 RB2 KB2
    by_cases hlt : i < n
    · have hir : i < rs.length := by rw [HL.out]; exact hlt
      obtain ⟨r, hr0⟩ : ∃ r, rs[i] = r := ⟨_, rfl⟩
      have hget : rs[i]? = some r := by rw [List.getElem?_eq_getElem hir, hr0]
      obtain ⟨gb, off, rfl, hgb, hc⟩ := H.out.at_ (by omega)
      obtain ⟨x0, x1, x2⟩ := hc i r hget
      rw [← HK.out.cell hgb (fun h => h)] at x0 x1 x2
      have BR := Lib.hid ((HB.out.bs r (List.mem_of_getElem? hget)).keeps HK.out (fun _ _ _ _ _ h => h))
      have hdr : (rs.map RV.r).drop i = r.r :: (rs.map RV.r).drop (i + 1) := by
        rw [List.drop_eq_getElem_cons (by rw [List.length_map]; exact hir), List.getElem_map, hr0]
      have HF2 : Hid (((rs.map RV.r).drop (i + 1)).foldl stepS (stepS s ⟨r.k, r.s, r.b⟩) = foldS (rs.map RV.r)) := by
        show _ = _
        rw [← HF.out, hdr]
        rfl
      have ON : Hid ((stepS s ⟨r.k, r.s, r.b⟩).ok) := stepS_ok OS.out BR.out.byte
      obtain ⟨rk, rsq, rA, rc, rb⟩ := r
      unfold RV.v at x2
      dsimp only at x0 x1 x2 BR HF2 ON
      obtain ⟨rn, hrn⟩ : ∃ z, rb.length = z := ⟨_, rfl⟩
      rw [hrn] at x2 BR
      clear hget hc hr0 hir hdr HF hrn
      obtain ⟨w3, hw3⟩ : ∃ x, wv.alloc (.cells #[.int .i64 rk, .int .i64 rsq, .slice rA rn rc] 58) = x := ⟨_, rfl⟩
      have XB3 : Hid (Blk w3 wv.heap.size [.int .i64 rk, .int .i64 rsq, .slice rA rn rc] 58) := by rw [← hw3]; exact Blk.new wv [.int .i64 rk, .int .i64 rsq, .slice rA rn rc] 58
      have K3 : Hid (Keeps None wv w3) := by rw [← hw3]; exact (Keeps.refl None wv).alloc _
      have SB3 := Lib.hid (K3.out.blk SB.out (fun h => h))
      have BR3 := Lib.hid (BR.out.keeps K3.out (fun _ _ _ _ _ h => h))
      have HM3 := Lib.hid (HM.out.later K3.out)
      have HK3 := Lib.hid (HK.out.trans K3.out (T := None) (fun _ h => h) (fun _ _ h => h))
      have RB3 := Lib.hid (K3.out.blk RB.out (fun h => h))
      have y0 := XB3.out.cellD 0 _ rfl
      have y1 := XB3.out.cellD 1 _ rfl
      have y2 := XB3.out.cellD 2 _ rfl
      have WITH := Lib.hid (lgwith_any s OS.out A' n' c' (fun b => w.heap.size < b ∧ ¬ b = sb) rk rsq rA rn rc rb w3 HM3.out BR3.out)
      unfold St.v at WITH
      clear BR SB HM RB HK BR3
      go_wp2_with (refine wpList_load_blk (b := sb) (o := 0) (ds := s.cs A' n' c') SB3.out (fun j v hv => by rw [Nat.zero_add]; exact hv) rfl rfl rfl Try.underlying39 rfl (by rw [St.cs_len OS.out]; exact st_size) ?_)
      go_wp2_with fail
      refine WITH.out.mono ?_
      rintro e w4 ⟨A4, n4, c4, rfl, m4, k4⟩
      have SB4 := Lib.hid (k4.blk SB3.out (fun h => h))
      have M4 : Hid (ChkV w4 (fun b => w.heap.size < b ∧ ¬ b = sb) A4 n4 c4 (stepS s ⟨rk, rsq, rb⟩).k.mid) := m4.mono (fun b hb => by
        have h1 := K3.out.size
        have h2 := HK3.out.size
        rcases hb with h | h
        · exact h
        · exact ⟨by omega, by omega⟩)
      have RB4 := Lib.hid (k4.blk RB3.out (fun h => h))
      have HK4 := Lib.hid (HK3.out.trans k4 (T := None) (fun _ h => h) (fun _ _ h => h))
      clear m4 k4 y0 y1 y2 XB3 SB3 HM3 RB3 HK3 WITH
      unfold St.v
      go_wp2_with (refine wpList_store_blk (b := sb) (o := 0) (ds := (stepS s ⟨rk, rsq, rb⟩).cs A4 n4 c4) SB4.out (by rw [St.cs_len ON.out, St.cs_len OS.out]; decide) (St.cs_one _ _ _ _) rfl rfl rfl rfl (by rw [St.cs_len ON.out]; exact st_size) ?_)
      intro w5 b5 k5
      rw [splice_all (by rw [St.cs_len ON.out, St.cs_len OS.out])] at b5
      have SB5 := Lib.hid b5
      have M5 := Lib.hid (M4.out.keeps k5 (fun b hb e => hb.2 e))
      have RB5 := Lib.hid (k5.blk RB4.out (by omega))
      have HK5 := Lib.hid (HK4.out.trans k5 (T := None) (fun _ h => h) (fun b hb e => absurd e (by omega)))
      clear b5 k5 SB4 M4 RB4 HK4
      go_wp2
      go_roundw
      case rel => exact ⟨i + 1, _, A4, n4, c4, by omega, by go_num, ON.out, HF2.out, SB5.out, M5.out, RB5.out, HK5.out⟩
      case measure => simp [intOf]; omega
    · obtain rfl : i = n := by omega
      have EQ : Hid (foldS (rs.map RV.r) = s) := by
        show _ = _
        rw [← HF.out, List.drop_eq_nil_of_le (by rw [List.length_map, HL.out]; exact Nat.le_refl _)]
        rfl
      clear HF
      go_wp2_with (first | (refine wpList_load_blk (b := sb) (o := 0) (ds := s.cs A' n' c') SB.out (fun j v hv => by rw [Nat.zero_add]; exact hv) rfl rfl rfl Try.underlying39 rfl (by rw [St.cs_len OS.out]; exact st_size) ?_) | (refine wpList_store_blk (b := w.heap.size) (o := 0) (ds := s.cs A' n' c') RB.out (by rw [St.cs_len OS.out, St.cs_len stZ_ok]; decide) (St.cs_one _ _ _ _) rfl rfl rfl rfl (by rw [St.cs_len OS.out]; exact st_size) ?_))
      intro wz hbz hkz
      rw [splice_all (by rw [St.cs_len OS.out, St.cs_len stZ_ok])] at hbz
      have HBZ := Lib.hid hbz
      have HKZ := Lib.hid (HK.out.trans hkz (T := None) (fun _ h => h) (fun b hb e => absurd e (by omega)))
      have HMZ := Lib.hid (HM.out.keeps hkz (fun b hb e => by have h1 := hb.1; omega))
      clear hbz hkz
      go_wp2
      refine bodyPost_ret (cell_res1 rfl _ HBZ.out Try.underlying39 rfl (by rw [St.cs_len OS.out]; exact st_size) rfl) rfl ?_
      exact ⟨A', n', c', by rw [EQ.out]; rfl, by rw [EQ.out]; exact HMZ.out.mono (fun b hb => .inr (by have h1 := hb.1; omega)), HKZ.out⟩
end Go.Proofs.Ytfldgaiiniknpaa
/- The walk of ledger's Records. -/
namespace Go.Proofs.Ytfldgaiiniknpaa
open Go.RowKit

theorem Copied.later {w a a' : World} {v : Value} {rs : List RV} (h : Copied w a v rs) (k : Keeps None a a') : Copied w a' v rs := ⟨h.o.later k, h.bd.later k, h.k.trans k (fun _ h => h) (fun _ _ h => h)⟩
theorem Copied.none (w : World) : Copied w w (.slice none 0 0) [] := ⟨OwnR.nil _ _, Bds.nil _ _, Keeps.refl _ _⟩
theorem Copied.push {w a w' : World} {v v' : Value} {rs : List RV} {r : RV} (h : Copied w a v rs) (hr : Bs a r.A r.b.length r.c r.b) (hp : ∀ b, r.at_ b → (w.heap.size ≤ b ∧ ¬ v.ownBlock = some b) ∧ b < a.heap.size)
    (o : OwnR w' w.heap.size v' (rs ++ [r])) (k : Keeps (fun k => v.ownBlock = some k) a w') (d : v'.ownBlock = v.ownBlock ∨ v'.ownBlock = some a.heap.size) : Copied w w' v' (rs ++ [r]) := by
  refine ⟨o, ⟨fun x hx => ?_, fun x hx b hb => ?_⟩, h.k.trans k (fun _ h => absurd h (fun h => h)) (fun b hb e => absurd (h.o.block e).1 (by omega))⟩
  · rcases List.mem_append.1 hx with h1 | h1
    · exact (h.bd.keeps k (fun b hb _ e => hb.2 e)).bs x h1
    · rw [List.mem_singleton.1 h1]
      exact hr.keeps k (fun b off hn _ e hs => (hp b ⟨off, by rw [hr.len]; exact hn, e⟩).1.2 hs)
  · have hq : (w.heap.size ≤ b ∧ ¬ v.ownBlock = some b) ∧ b < a.heap.size := by
      rcases List.mem_append.1 hx with h1 | h1
      · exact h.bd.p x h1 b hb
      · rw [List.mem_singleton.1 h1] at hb; exact hp b hb
    have := k.size
    refine ⟨⟨hq.1.1, fun e => ?_⟩, by omega⟩
    rcases d with d | d
    · exact hq.1.2 (d.symm.trans e)
    · rw [d] at e
      have := Option.some.inj e
      omega
/-- Bytes just made, as a record's body. -/
theorem own_at {w : World} {B : Nat} {A : Option Addr} {n c : Nat} {zs : List Int} {k s : Int} (h : Own w B (.slice A n c) zs) (hn : zs.length = n) : ∀ b, (⟨k, s, A, c, zs⟩ : RV).at_ b → B ≤ b ∧ b < w.heap.size := by
  rintro b ⟨off, h0, e⟩
  subst hn
  exact (chkV_own h).p b off h0 e
set_option maxRecDepth 100000 in
set_option maxHeartbeats 3200000 in
theorem lgrecs_any (s : St) (os : s.ok) (A : Option Addr) (n cap : Nat) (P : Nat → Prop) (w : World) (hk : ChkV w P A n cap s.k.mid) :
    Calls Try.prog 20 #[s.v A n cap] w fun e w' => ∃ v rs, e = .returned v ∧ Copied w w' v rs ∧ rs.map RV.r = recsS s := by
  have OS := Lib.hid os
  have HM := Lib.hid hk
  obtain ⟨w0, hw0⟩ : ∃ x, w.alloc (.cells (s.cs A n cap).toArray 39) = x := ⟨_, rfl⟩
  have SB : Hid (Blk w0 w.heap.size (s.cs A n cap) 39) := by rw [← hw0]; exact Blk.new w (s.cs A n cap) 39
  have KB : Hid (Keeps None w w0) := by rw [← hw0]; exact (Keeps.refl None w).alloc _
  have S0 : w.heap.size < w0.heap.size := SB.out.lt
  have PC := Lib.hid (fun w => lgputc_any s.c os.c w)
  have PK := Lib.hid (fun w h => lgputk_any s.k os.k A n cap w h)
  unfold Com.v at PC
  unfold Chk.v at PK
  unfold St.v
  have RS : Hid (recsS s = (if 0 < (comL s.c).length then [⟨2, 0, comL s.c⟩] else []) ++ (if s.has = true ∧ 0 < (chkL s.k).length then [⟨3, 0, chkL s.k⟩] else [])) := rfl
  obtain ⟨V, hV⟩ : ∃ V, (s.cs A n cap).toArray = V := ⟨_, rfl⟩
  rw [hV] at hw0 ⊢
  clear hV os hk
  go_enter Try.func20, Try.ntmps20
  go_wp2_with (refine wpList_load_blk (b := w.heap.size) (o := 0) (ds := s.c.cs) SB.out (fun j v hv => by rw [Nat.zero_add]; exact St.cs_com OS.out A n cap j v hv) rfl rfl rfl Try.underlying25 rfl (by rw [Com.cs_len OS.out.c]; exact com_size) ?_)
  go_wp2_with fail
  refine (PC.out _).mono ?_
  rintro e w1 ⟨v1, rfl, o1, k1⟩
  obtain ⟨A1, c1, rfl, b1, -⟩ := o1.shape
  have q1 := b1.le
  have q2 := b1.max
  obtain ⟨cl, hcl⟩ : ∃ x, Hid ((comL s.c).length = x) := ⟨_, rfl⟩
  rw [hcl.out] at o1 q1 b1 ⊢
  have B1 := Lib.hid b1
  rw [hcl.out] at RS
  have O1 := Lib.hid o1
  have SB1 := Lib.hid (k1.blk SB.out (fun h => h))
  have KB1 := Lib.hid (KB.out.trans k1 (T := None) (fun _ h => h) (fun _ _ h => h))
  have CP0 : Hid (Copied w w1 (.slice none 0 0) []) := (Copied.none w).later KB1.out
  have HW0 := Lib.hid hw0
  clear o1 b1 k1 SB KB hw0
  by_cases g1 : 0 < cl
  · have d1 : decide (0 < (cl : Int)) = true := decide_eq_true (by omega)
    rw [if_pos g1] at RS
    -- 2 kind, comL s.c bytes, hcl their length's name, 2 the new names' mark, CP0 Copied so far, none 0 0 the slice so far (A n c), O1 own fact of the bytes, A1, c1 its slice (A c)
    go_wp2_with (at_builtin; refine Hid.out ?_)
    refine Lib.hid ?_
    refine wpList_append_recs (ns := [⟨2, 0, A1, c1, comL s.c⟩]) (CP0.out.later ((Keeps.refl None _).alloc _)).o (Rws.one _ (by
      show Blk _ _ [.int .i64 2, .int .i64 0, .slice _ _ _] _
      rw [hcl.out]
      exact Blk.new _ [.int .i64 2, .int .i64 0, .slice _ _ _] 58)) (by simp) (Nat.le_trans CP0.out.k.size (by simp)) (by rfl) (by rfl) (by rfl) (by rfl) (by rfl) ?_
    intro v2 w2 o2 k2 d2
    have CP2 := Lib.hid ((CP0.out.later ((Keeps.refl None w1).alloc (.cells #[.int .i64 2, .int .i64 0, .slice A1 cl c1] 58))).push (r := ⟨2, 0, A1, c1, comL s.c⟩) (by show Bs _ A1 (comL s.c).length c1 _; rw [hcl.out]; exact B1.out.keeps ((Keeps.refl None w1).alloc _) (fun _ _ _ _ _ h => h)) (fun b hb => by
      have h1 := own_at (O1.out.alloc (.cells #[.int .i64 2, .int .i64 0, .slice A1 cl c1] 58)) hcl.out b hb
      exact ⟨⟨by omega, fun e => by cases e⟩, h1.2⟩) o2 k2 d2)
    have KK : Hid (Keeps None w1 w2) := ((Keeps.refl None w1).alloc _).trans k2 (fun _ h => h) (fun b hb e => by cases e)
    obtain ⟨wq, rfl⟩ : ∃ x, x = w2 := ⟨_, rfl⟩
    have SBq := Lib.hid (KK.out.blk SB1.out (fun h => h))
    have HMq := Lib.hid ((HM.out.later KB1.out).later KK.out)
    obtain ⟨A2, c2, rfl, r2, -⟩ := o2.shape
    have q3 := r2.le
    have q4 := r2.max
    have CPq := CP2
    clear o2 k2 d2 r2 CP2 CP0 SB1 KB1 KK O1 B1 d1
    -- A2 1 c2 the slice so far, #2 its records, #3 their words
    go_wp2_with (refine wpList_load_blk (b := w.heap.size) (o := 69) (ds := s.k.cs A n cap) SBq.out (fun j v hv => St.cs_chk OS.out A n cap j v hv) rfl rfl rfl Try.underlying29 rfl (by rw [Chk.cs_len OS.out.k]; exact chk_size) ?_)
    go_wp2_with fail
    refine (PK.out _ HMq.out.b).mono ?_
    rintro e w5 ⟨v5, rfl, o5, k5⟩
    obtain ⟨A5, c5, rfl, b5, -⟩ := o5.shape
    have q5 := b5.le
    have q6 := b5.max
    obtain ⟨kl, hkl⟩ : ∃ x, Hid ((chkL s.k).length = x) := ⟨_, rfl⟩
    rw [hkl.out] at o5 q5 b5 ⊢
    rw [hkl.out] at RS
    have O5 := Lib.hid o5
    have B5 := Lib.hid b5
    have x68 := (k5.blk SBq.out (fun h => h)).cellD 68 _ (St.cs_has OS.out A n cap)
    have CP5 := Lib.hid (CPq.out.later k5)
    have OWN5 : Hid (∀ b, (Value.slice A2 1 c2).ownBlock = some b → b < wq.heap.size) := fun b e => (CPq.out.o.block e).2
    have SZ5 : w.heap.size ≤ wq.heap.size := CPq.out.k.size
    clear o5 b5 k5 SBq HMq CPq
    obtain ⟨hs, HHS⟩ : ∃ b, Hid (s.has = b) := ⟨_, rfl⟩
    rw [HHS.out] at x68 RS
    cases hs with
    | false =>
      first | rw [if_neg (by simp), List.append_nil] at RS | rw [if_neg (by simp)] at RS
      go_wp2
      go_ret
      exact ⟨_, _, rfl, CP5.out, RS.out.symm⟩
    | true =>
      by_cases g2 : 0 < kl
      case neg =>
        have d2 : decide (0 < (kl : Int)) = false := decide_eq_false (by omega)
        first | rw [if_neg (by simp; omega), List.append_nil] at RS | rw [if_neg (by simp; omega)] at RS
        go_wp2
        go_ret
        exact ⟨_, _, rfl, CP5.out, RS.out.symm⟩
      have d2 : decide (0 < (kl : Int)) = true := decide_eq_true (by omega)
      rw [if_pos ⟨rfl, g2⟩] at RS
      -- 3 kind, chkL s.k bytes, hkl their length's name, 6 the new names' mark, CP5 Copied so far, A2 1 c2 the slice so far (A n c), O5 own fact of the bytes, A5, c5 its slice (A c)
      go_wp2_with (at_builtin; refine Hid.out ?_)
      refine Lib.hid ?_
      refine wpList_append_recs (ns := [⟨3, 0, A5, c5, chkL s.k⟩]) (CP5.out.later ((Keeps.refl None _).alloc _)).o (Rws.one _ (by
        show Blk _ _ [.int .i64 3, .int .i64 0, .slice _ _ _] _
        rw [hkl.out]
        exact Blk.new _ [.int .i64 3, .int .i64 0, .slice _ _ _] 58)) (by simp) (Nat.le_trans CP5.out.k.size (by simp)) (by rfl) (by rfl) (by rfl) (by rfl) (by rfl) ?_
      intro v6 w6 o6 k6 d6
      have CP6 := Lib.hid ((CP5.out.later ((Keeps.refl None w5).alloc (.cells #[.int .i64 3, .int .i64 0, .slice A5 kl c5] 58))).push (r := ⟨3, 0, A5, c5, chkL s.k⟩) (by show Bs _ A5 (chkL s.k).length c5 _; rw [hkl.out]; exact B5.out.keeps ((Keeps.refl None w5).alloc _) (fun _ _ _ _ _ h => h)) (fun b hb => by
        have h1 := own_at (O5.out.alloc (.cells #[.int .i64 3, .int .i64 0, .slice A5 kl c5] 58)) hkl.out b hb
        exact ⟨⟨by omega, fun e => by have := OWN5.out b e; omega⟩, h1.2⟩) o6 k6 d6)
      clear o6 k6 d6 CP5 B5 O5 x68
      go_wp2
      go_ret
      exact ⟨_, _, rfl, CP6.out, by rw [RS.out, List.map_append]; rfl⟩
  · have d1 : decide (0 < (cl : Int)) = false := decide_eq_false (by omega)
    rw [if_neg g1, List.nil_append] at RS
    have HMq := Lib.hid (HM.out.later KB1.out)
    have SBq := SB1
    have CPq := CP0
    obtain ⟨wq, rfl⟩ : ∃ x, x = w1 := ⟨_, rfl⟩
    clear CP0 SB1 KB1 O1 B1
    -- none 0 0 the slice so far, #2 its records, #3 their words
    go_wp2_with (refine wpList_load_blk (b := w.heap.size) (o := 69) (ds := s.k.cs A n cap) SBq.out (fun j v hv => St.cs_chk OS.out A n cap j v hv) rfl rfl rfl Try.underlying29 rfl (by rw [Chk.cs_len OS.out.k]; exact chk_size) ?_)
    go_wp2_with fail
    refine (PK.out _ HMq.out.b).mono ?_
    rintro e w5 ⟨v5, rfl, o5, k5⟩
    obtain ⟨A5, c5, rfl, b5, -⟩ := o5.shape
    have q5 := b5.le
    have q6 := b5.max
    obtain ⟨kl, hkl⟩ : ∃ x, Hid ((chkL s.k).length = x) := ⟨_, rfl⟩
    rw [hkl.out] at o5 q5 b5 ⊢
    rw [hkl.out] at RS
    have O5 := Lib.hid o5
    have B5 := Lib.hid b5
    have x68 := (k5.blk SBq.out (fun h => h)).cellD 68 _ (St.cs_has OS.out A n cap)
    have CP5 := Lib.hid (CPq.out.later k5)
    have OWN5 : Hid (∀ b, (Value.slice none 0 0).ownBlock = some b → b < wq.heap.size) := fun b e => (CPq.out.o.block e).2
    have SZ5 : w.heap.size ≤ wq.heap.size := CPq.out.k.size
    clear o5 b5 k5 SBq HMq CPq
    obtain ⟨hs, HHS⟩ : ∃ b, Hid (s.has = b) := ⟨_, rfl⟩
    rw [HHS.out] at x68 RS
    cases hs with
    | false =>
      first | rw [if_neg (by simp), List.append_nil] at RS | rw [if_neg (by simp)] at RS
      go_wp2
      go_ret
      exact ⟨_, _, rfl, CP5.out, RS.out.symm⟩
    | true =>
      by_cases g2 : 0 < kl
      case neg =>
        have d2 : decide (0 < (kl : Int)) = false := decide_eq_false (by omega)
        first | rw [if_neg (by simp; omega), List.append_nil] at RS | rw [if_neg (by simp; omega)] at RS
        go_wp2
        go_ret
        exact ⟨_, _, rfl, CP5.out, RS.out.symm⟩
      have d2 : decide (0 < (kl : Int)) = true := decide_eq_true (by omega)
      rw [if_pos ⟨rfl, g2⟩] at RS
      -- 3 kind, chkL s.k bytes, hkl their length's name, 6 the new names' mark, CP5 Copied so far, none 0 0 the slice so far (A n c), O5 own fact of the bytes, A5, c5 its slice (A c)
      go_wp2_with (at_builtin; refine Hid.out ?_)
      refine Lib.hid ?_
      refine wpList_append_recs (ns := [⟨3, 0, A5, c5, chkL s.k⟩]) (CP5.out.later ((Keeps.refl None _).alloc _)).o (Rws.one _ (by
        show Blk _ _ [.int .i64 3, .int .i64 0, .slice _ _ _] _
        rw [hkl.out]
        exact Blk.new _ [.int .i64 3, .int .i64 0, .slice _ _ _] 58)) (by simp) (Nat.le_trans CP5.out.k.size (by simp)) (by rfl) (by rfl) (by rfl) (by rfl) (by rfl) ?_
      intro v6 w6 o6 k6 d6
      have CP6 := Lib.hid ((CP5.out.later ((Keeps.refl None w5).alloc (.cells #[.int .i64 3, .int .i64 0, .slice A5 kl c5] 58))).push (r := ⟨3, 0, A5, c5, chkL s.k⟩) (by show Bs _ A5 (chkL s.k).length c5 _; rw [hkl.out]; exact B5.out.keeps ((Keeps.refl None w5).alloc _) (fun _ _ _ _ _ h => h)) (fun b hb => by
        have h1 := own_at (O5.out.alloc (.cells #[.int .i64 3, .int .i64 0, .slice A5 kl c5] 58)) hkl.out b hb
        exact ⟨⟨by omega, fun e => by have := OWN5.out b e; omega⟩, h1.2⟩) o6 k6 d6)
      clear o6 k6 d6 CP5 B5 O5 x68
      go_wp2
      go_ret
      exact ⟨_, _, rfl, CP6.out, by rw [RS.out, List.map_append]; rfl⟩
end Go.Proofs.Ytfldgaiiniknpaa
/- The plain law of a journal: what becomes of a sector that is laid anew, with power and without. -/
namespace Go.Proofs.Ytfldgaiiniknpaa
open Go.RowKit

theorem tornN_le (os ns ps : List Int) : (tornN os ns ps).length ≤ ns.length := by
  unfold tornN
  split
  · rw [tornTo_length]; exact Nat.le_refl _
  · exact Nat.zero_le _
theorem stepped_pass {s : FS} (h : ¬ s.left = 0) : s.stepped.pick = s.pick ∧ s.stepped.dark = s.dark ∧ s.stepped.er = s.er ∧ (s.left < 0 ↔ s.stepped.left < 0) := by
  unfold FS.stepped
  rw [if_neg h]
  split
  · rename_i h2
    exact ⟨rfl, rfl, rfl, ⟨fun _ => h2, fun _ => h2⟩⟩
  · refine ⟨rfl, rfl, rfl, ⟨fun h1 => by omega, fun h1 => by have h1 : s.left - 1 < 0 := h1; omega⟩⟩
theorem stepped_cut {s : FS} (h : s.left = 0) : s.stepped.pick = [] ∧ s.stepped.dark = true ∧ s.stepped.er = s.er := by
  unfold FS.stepped
  rw [if_neg (by omega), if_pos h]
  exact ⟨rfl, rfl, rfl⟩
theorem progW_out : ∀ (k : Nat) (s : FS) (p : Nat) (ws : List Int), ws.length = 8 * k → p + 8 * k ≤ s.b.length →
    ((progW k s p ws).2 = 0 ∧ (progW k s p ws).1.b = splice s.b p ws ∧ (progW k s p ws).1.dark = s.dark ∧ (progW k s p ws).1.pick = s.pick ∧ (progW k s p ws).1.er = s.er ∧ (s.left < 0 ↔ (progW k s p ws).1.left < 0)) ∨
    (∃ i, i < k ∧ (progW k s p ws).2 = 5 ∧ (progW k s p ws).1.dark = true ∧ (progW k s p ws).1.pick = [] ∧ (progW k s p ws).1.er = s.er ∧ 0 ≤ s.left ∧
      (progW k s p ws).1.b = splice s.b p (ws.take (8 * i) ++ tornN ((s.b.drop (p + 8 * i)).take 8) ((ws.drop (8 * i)).take 8) s.pick))
  | 0, s, p, ws, hw, _ => by
    have : ws = [] := List.eq_nil_of_length_eq_zero (by omega)
    subst this
    exact .inl ⟨rfl, by rw [splice_empty]; rfl, rfl, rfl, rfl, Iff.rfl⟩
  | k + 1, s, p, ws, hw, hp => by
    have h8 : (ws.take 8).length = 8 := by rw [List.length_take]; omega
    by_cases h0 : s.left = 0
    · refine .inr ⟨0, Nat.succ_pos _, ?_⟩
      obtain ⟨c1, c2, c3⟩ := stepped_cut h0
      have e : progW (k + 1) s p ws = ({ s.stepped with b := splice s.b p (tornN ((s.b.drop p).take 8) (ws.take 8) s.pick) }, 5) := if_pos h0
      rw [e]
      exact ⟨rfl, c2, c1, c3, by omega, by simp⟩
    · obtain ⟨c1, c2, c3, c4⟩ := stepped_pass h0
      have e : progW (k + 1) s p ws = progW k { s.stepped with b := splice s.b p (ws.take 8) } (p + 8) (ws.drop 8) := if_neg h0
      have hl : (splice s.b p (ws.take 8)).length = s.b.length := splice_len _ _ _ (by omega)
      have ih := progW_out k { s.stepped with b := splice s.b p (ws.take 8) } (p + 8) (ws.drop 8) (by rw [List.length_drop]; omega) (by show _ ≤ (splice s.b p (ws.take 8)).length; rw [hl]; omega)
      rw [← e] at ih
      dsimp only at ih
      rw [c1, c2, c3] at ih
      rcases ih with ⟨i1, i2, i3, i4, i5, i6⟩ | ⟨i, hi, i2, i3, i4, i5, i6, i7⟩
      · refine .inl ⟨i1, ?_, i3, i4, i5, c4.trans i6⟩
        rw [i2]
        have := splice_splice s.b (ws.take 8) (ws.drop 8) p (by rw [h8, List.length_drop]; omega)
        rw [h8, List.take_append_drop] at this
        exact this
      · refine .inr ⟨i + 1, by omega, i2, i3, i4, i5, by have := c4; omega, ?_⟩
        rw [i7]
        have hd : (splice s.b p (ws.take 8)).drop (p + 8 + 8 * i) = s.b.drop (p + 8 * (i + 1)) := by
          rw [splice_drop _ _ _ _ (by omega) (by omega)]
          congr 1; omega
        rw [hd]
        have hY : ((ws.drop 8).take (8 * i) ++ tornN ((s.b.drop (p + 8 * (i + 1))).take 8) (((ws.drop 8).drop (8 * i)).take 8) s.pick).length ≤ 8 * (i + 1) := by
          rw [List.length_append]
          have h1 := tornN_le ((s.b.drop (p + 8 * (i + 1))).take 8) (((ws.drop 8).drop (8 * i)).take 8) s.pick
          have h2 : (((ws.drop 8).drop (8 * i)).take 8).length ≤ 8 := by rw [List.length_take]; omega
          have h3 : ((ws.drop 8).take (8 * i)).length ≤ 8 * i := by rw [List.length_take]; omega
          omega
        have := splice_splice s.b (ws.take 8) ((ws.drop 8).take (8 * i) ++ tornN ((s.b.drop (p + 8 * (i + 1))).take 8) (((ws.drop 8).drop (8 * i)).take 8) s.pick) p (by rw [h8]; omega)
        rw [h8] at this
        rw [this, ← List.append_assoc]
        congr 2
        · rw [show 8 * (i + 1) = 8 + 8 * i by omega, List.take_add]
        · rw [List.drop_drop]
          congr 2
          congr 1
          omega
/-- What is good of a flash: n sectors of bytes. -/
structure FG (s : FS) (n : Nat) : Prop where
  bl : s.b.length = 1024 * n
  el : s.er.length = n
  byt : Byt s.b
  pk : Byt s.pick
  n2 : 2 ≤ n
def secB (b : List Int) (k : Nat) : List Int := (b.drop (1024 * k)).take 1024
theorem secB_len {b : List Int} {n k : Nat} (hb : b.length = 1024 * n) (hk : k < n) : (secB b k).length = 1024 := by
  unfold secB; rw [List.length_take, List.length_drop]
  have : 1024 * k + 1024 ≤ 1024 * n := by omega
  omega
theorem Byt.sec {b : List Int} (h : Byt b) (k : Nat) : Byt (secB b k) := fun z hz => h z (List.mem_of_mem_drop (List.mem_of_mem_take hz))
theorem getD_secB (b : List Int) (k i : Nat) (hi : i < 1024) : (secB b k).getD i 0 = b.getD (1024 * k + i) 0 := by
  simp [secB, List.getD, List.getElem?_take, hi, List.getElem?_drop]
theorem ext_getD {l m : List Int} (hl : l.length = m.length) (h : ∀ i, i < l.length → l.getD i 0 = m.getD i 0) : l = m := by
  apply List.ext_getElem hl
  intro i h1 h2
  have := h i h1
  simpa [List.getD, h1, h2] using this
theorem secB_splice_in {b X : List Int} {n k p : Nat} (hb : b.length = 1024 * n) (hk : k < n) (hp : p + X.length ≤ 1024) : secB (splice b (1024 * k + p) X) k = splice (secB b k) p X := by
  have h1 : 1024 * k + 1024 ≤ 1024 * n := by omega
  have hl : 1024 * k + p + X.length ≤ b.length := by omega
  have hbl : (splice b (1024 * k + p) X).length = 1024 * n := by rw [splice_len _ _ _ hl]; exact hb
  have hs := secB_len hb hk
  refine ext_getD (by rw [secB_len hbl hk, splice_len _ _ _ (by omega), hs]) fun i hi => ?_
  rw [secB_len hbl hk] at hi
  rw [getD_secB _ _ _ hi, splice_getD _ _ _ hl, splice_getD _ _ _ (by omega), getD_secB _ _ _ hi]
  by_cases q : p ≤ i ∧ i < p + X.length
  · rw [if_pos q, if_pos (by omega)]
    congr 1; omega
  · rw [if_neg q, if_neg (by omega)]
theorem secB_splice_out {b X : List Int} {n k o p : Nat} (hb : b.length = 1024 * n) (hk : k < n) (ho : o < n) (hne : o ≠ k) (hp : p + X.length ≤ 1024) : secB (splice b (1024 * k + p) X) o = secB b o := by
  have h1 : 1024 * k + 1024 ≤ 1024 * n := by omega
  have hl : 1024 * k + p + X.length ≤ b.length := by omega
  have hbl : (splice b (1024 * k + p) X).length = 1024 * n := by rw [splice_len _ _ _ hl]; exact hb
  refine ext_getD (by rw [secB_len hbl ho, secB_len hb ho]) fun i hi => ?_
  rw [secB_len hbl ho] at hi
  rw [getD_secB _ _ _ hi, splice_getD _ _ _ hl, getD_secB _ _ _ hi, if_neg (by omega)]
/-- A flash behind a call on sector t: the others are as they were. -/
structure Beh (s s' : FS) (n t : Nat) : Prop where
  g : FG s' n
  o : ∀ o, o < n → o ≠ t → secB s'.b o = secB s.b o
theorem Beh.refl {s : FS} {n t : Nat} (h : FG s n) : Beh s s n t := ⟨h, fun _ _ _ => rfl⟩
theorem Beh.trans {s s' s'' : FS} {n t : Nat} (h : Beh s s' n t) (k : Beh s' s'' n t) : Beh s s'' n t := ⟨k.g, fun o ho hne => (k.o o ho hne).trans (h.o o ho hne)⟩
theorem Beh.of {s s' : FS} {n t p : Nat} {X : List Int} (h : FG s n) (ht : t < n) (hb : s'.b = splice s.b (1024 * t + p) X) (hp : p + X.length ≤ 1024) (hX : Byt X) (hpk : s'.pick = s.pick ∨ s'.pick = []) (he : s'.er.length = n) : Beh s s' n t ∧ secB s'.b t = splice (secB s.b t) p X := by
  have h1 : 1024 * t + 1024 ≤ 1024 * n := by omega
  have hl : 1024 * t + p + X.length ≤ s.b.length := by rw [h.bl]; omega
  refine ⟨⟨⟨by rw [hb, splice_len _ _ _ hl, h.bl], he, by rw [hb]; exact splice_byte h.byt hX, ?_, h.n2⟩, fun o ho hne => by rw [hb]; exact secB_splice_out h.bl ht ho hne hp⟩, by rw [hb]; exact secB_splice_in h.bl ht hp⟩
  rcases hpk with e | e
  · rw [e]; exact h.pk
  · rw [e]; exact fun z hz => by cases hz
/-- Words programmed where they can be. -/
theorem gprog_out {s : FS} {n t p : Nat} {ws : List Int} (h : FG s n) (hd : s.dark = false) (ht : t < 2) (hp : p + ws.length ≤ 1024) (h8 : p % 8 = 0) (hw8 : ws.length % 8 = 0) (hw : Byt ws) (hc : canN (((secB s.b t).drop p).take ws.length) ws = true) :
    ((s.gprog 0 2 ((t : Int) * 1024 + p) ws).2 = 0 ∧ (s.gprog 0 2 ((t : Int) * 1024 + p) ws).1.dark = false ∧ Beh s (s.gprog 0 2 ((t : Int) * 1024 + p) ws).1 n t ∧ secB (s.gprog 0 2 ((t : Int) * 1024 + p) ws).1.b t = splice (secB s.b t) p ws ∧ (s.gprog 0 2 ((t : Int) * 1024 + p) ws).1.er = s.er ∧ (s.left < 0 ↔ (s.gprog 0 2 ((t : Int) * 1024 + p) ws).1.left < 0)) ∨
    (∃ i, 8 * i < ws.length ∧ (s.gprog 0 2 ((t : Int) * 1024 + p) ws).2 = 5 ∧ (s.gprog 0 2 ((t : Int) * 1024 + p) ws).1.dark = true ∧ Beh s (s.gprog 0 2 ((t : Int) * 1024 + p) ws).1 n t ∧ 0 ≤ s.left ∧
      secB (s.gprog 0 2 ((t : Int) * 1024 + p) ws).1.b t = splice (secB s.b t) p (ws.take (8 * i) ++ tornN (((secB s.b t).drop (p + 8 * i)).take 8) ((ws.drop (8 * i)).take 8) s.pick)) := by
  have htn : t < n := Nat.lt_of_lt_of_le ht h.n2
  have hn : 1024 * t + 1024 ≤ s.b.length := by rw [h.bl]; omega
  have w1 : withinB ((t : Int) * 1024 + p) ws.length (1024 * 2 : Nat) = true := decide_eq_true (by omega)
  have ea : (1024 * ((0 : Nat) : Int) + ((t : Int) * 1024 + p)) = ((1024 * t + p : Nat) : Int) := by omega
  have w2 : withinB ((1024 * t + p : Nat) : Int) ws.length s.b.length = true := decide_eq_true (by omega)
  have hdrop : ∀ q m, q + m ≤ 1024 → ((secB s.b t).drop q).take m = (s.b.drop (1024 * t + q)).take m := fun q m hq => by
    unfold secB
    rw [List.drop_take, List.take_take, List.drop_drop, Nat.min_eq_left (by omega)]
  have eP : s.gprog 0 2 ((t : Int) * 1024 + p) ws = progW (ws.length / 8) s (1024 * t + p) ws := by
    unfold FS.gprog
    rw [if_neg (by rw [hd]; decide), if_pos w1, ea]
    unfold FS.progF
    rw [if_neg (by rw [hd]; decide), if_neg (by rw [w2]; decide), if_neg (by omega), Int.toNat_natCast, if_neg (by rw [← hdrop p ws.length hp, hc]; decide)]
  rw [eP]
  have e8 : 8 * (ws.length / 8) = ws.length := by omega
  rcases progW_out (ws.length / 8) s (1024 * t + p) ws e8.symm (by omega) with ⟨a1, a2, a3, a4, a5, a6⟩ | ⟨i, hi, a1, a2, a3, a4, a5, a6⟩
  · obtain ⟨b1, b2⟩ := Beh.of h htn a2 hp hw (.inl a4) (by rw [a5]; exact h.el)
    exact .inl ⟨a1, a3.trans hd, b1, b2, a5, a6⟩
  · have hi8 : 8 * i + 8 ≤ ws.length := by omega
    rw [show 1024 * t + p + 8 * i = 1024 * t + (p + 8 * i) by omega, ← hdrop (p + 8 * i) 8 (by omega)] at a6
    have hX : Byt (ws.take (8 * i) ++ tornN (((secB s.b t).drop (p + 8 * i)).take 8) ((ws.drop (8 * i)).take 8) s.pick) := by
      intro z hz
      rcases List.mem_append.1 hz with hz | hz
      · exact hw z (List.mem_of_mem_take hz)
      · exact tornN_byte (fun z hz => (h.byt.sec t) z (List.mem_of_mem_drop (List.mem_of_mem_take hz))) (fun z hz => hw z (List.mem_of_mem_drop (List.mem_of_mem_take hz))) h.pk z hz
    have hXl : p + (ws.take (8 * i) ++ tornN (((secB s.b t).drop (p + 8 * i)).take 8) ((ws.drop (8 * i)).take 8) s.pick).length ≤ 1024 := by
      rw [List.length_append]
      have h1 := tornN_le (((secB s.b t).drop (p + 8 * i)).take 8) ((ws.drop (8 * i)).take 8) s.pick
      rw [List.length_take, List.length_drop] at h1
      rw [List.length_take]
      omega
    obtain ⟨b1, b2⟩ := Beh.of h htn a6 hXl hX (.inr a3) (by rw [a4]; exact h.el)
    exact .inr ⟨i, by omega, a1, a2, b1, a5, b2⟩
end Go.Proofs.Ytfldgaiiniknpaa
