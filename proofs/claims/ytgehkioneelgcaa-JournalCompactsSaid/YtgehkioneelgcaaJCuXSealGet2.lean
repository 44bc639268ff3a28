
/- The walk of seal.Get. -/
import Derived.Test.YtgehkioneelgcaaJCuXSealGet
namespace Go.Proofs.Ytgehkioneelgcaa
open Go.RowKit

theorem results_cell3 {fn : Func} {p u v : Tmp} {ty : TypeId} (h : fn.results = #[.cell p ty, .tmp u, .tmp v]) (tmps : Array Value) (P : Program) (w : World) :
    (results fn tmps).run P w = ((asAddr (tmps.getD p undef)).run P w).andThen fun a w₁ => ((loadVar ty a).run P w₁).andThen fun x w₂ => .ok (.tuple #[x, tmps.getD u undef, tmps.getD v undef]) w₂ := by
  simp only [results, h]
  simp [Sem.run_bind, Result.andThen]
theorem Try.info40 : (Try.prog.info? 40).map (fun i => (i.zero, i.size)) = some (some (.agg #[.int .i64 0, .int .i64 0, .slice none 0 0]), 3) := by kernel_rfl
theorem get_res {w : World} {g : Nat} {a b c x y : Value} {T : TypeId} (tmps : Array Value) (h : Blk w g [a, b, c] T) (h2 : tmps.getD 2 undef = .pointer (some ⟨g, 0, none⟩)) (h3 : tmps.getD 3 undef = x) (h4 : tmps.getD 4 undef = y) :
    (results Try.f52 tmps).run Try.prog w = .ok (.tuple #[.agg #[a, b, c], x, y]) w := by
  have hl : (loadVar 40 ⟨g, 0, none⟩).run Try.prog w = .ok (.agg #[a, b, c]) w :=
    run_loadVar_row w g T 40 #[a, b, c] (0, 0) _ h Try.underlying40 rfl (by rw [(zero_of_info Try.info40).2]; rfl)
  rw [results_cell3 (p := 2) (u := 3) (v := 4) (ty := 40) rfl, h2, h3, h4]
  simp only [asAddr, Sem.run_pure, Result.andThen_ok, hl]

def GetTold (w : World) (zs : List Int) (e : Ending) (w' : World) : Prop :=
  ∃ k s v bl n ok, e = .returned (.tuple #[.agg #[.int .i64 k, .int .i64 s, v], .int .i64 n, .bool ok]) ∧ Own w' w.heap.size v bl ∧ Keeps None w w' ∧ GetIs zs k s bl n ok


set_option maxRecDepth 100000 in
set_option maxHeartbeats 3200000 in
theorem sget_any (A : Option Addr) (L cap : Nat) (zs : List Int) (w : World) (h : Bs w A L cap zs) (hL : L ≤ 1000000) : Calls Try.prog 52 #[.slice A L cap] w (GetTold w zs) := by
  have hl := h.len
  have hle := h.le
  have hmx := h.max
  by_cases g1 : L < 16
  · have d1 : decide ((L : Int) < 16) = true := decide_eq_true (by omega)
    have GN : Hid (getL zs = none) := by unfold getL; exact if_pos (by omega)
    clear h
    go_enter Try.func52, Try.ntmps52
    go_wp2
    refine bodyPost_ret (get_res _ (Blk.new w [.int .i64 0, .int .i64 0, .slice none 0 0] 40) rfl rfl rfl) rfl ?_
    exact ⟨0, 0, _, [], 0, false, rfl, Own.nil _ _, (Keeps.refl None w).alloc _, .inr ⟨rfl, GN.out, rfl, rfl, rfl, rfl⟩⟩
  have d1 : decide ((L : Int) < 16) = false := decide_eq_false (by omega)
  obtain ⟨bl, off, z0, rfl, hz0, a0, b0, -⟩ := h.get (i := 0) (by omega)
  obtain ⟨_, _, z2, ee, hz2, a2, b2, x2⟩ := h.get (i := 2) (by omega)
  cases ee
  obtain ⟨_, _, z3, ee, hz3, a3, b3, x3⟩ := h.get (i := 3) (by omega)
  cases ee
  obtain ⟨_, _, z4, ee, hz4, a4, b4, x4⟩ := h.get (i := 4) (by omega)
  cases ee
  obtain ⟨_, _, z5, ee, hz5, a5, b5, x5⟩ := h.get (i := 5) (by omega)
  cases ee
  obtain ⟨_, _, z6, ee, hz6, a6, b6, x6⟩ := h.get (i := 6) (by omega)
  cases ee
  obtain ⟨_, _, z7, ee, hz7, a7, b7, x7⟩ := h.get (i := 7) (by omega)
  cases ee
  obtain ⟨_, _, z0', ee, hz0', -, -, x0⟩ := h.get (i := 0) (by omega)
  cases ee
  obtain rfl : z0' = z0 := by rw [← hz0', hz0]
  obtain ⟨c0, rfl⟩ : ∃ c : Nat, z0' = c := ⟨z0'.toNat, by omega⟩
  obtain ⟨c2, rfl⟩ : ∃ c : Nat, z2 = c := ⟨z2.toNat, by omega⟩
  obtain ⟨c3, rfl⟩ : ∃ c : Nat, z3 = c := ⟨z3.toNat, by omega⟩
  obtain ⟨c4, rfl⟩ : ∃ c : Nat, z4 = c := ⟨z4.toNat, by omega⟩
  obtain ⟨c5, rfl⟩ : ∃ c : Nat, z5 = c := ⟨z5.toNat, by omega⟩
  obtain ⟨c6, rfl⟩ : ∃ c : Nat, z6 = c := ⟨z6.toNat, by omega⟩
  obtain ⟨c7, rfl⟩ : ∃ c : Nat, z7 = c := ⟨z7.toNat, by omega⟩
  have XC := Lib.hid (fun (w' : World) (hk : Keeps None w w') => show w'.cell? ⟨bl, off + 0, none⟩ = some (.int .u8 c0) ∧ w'.cell? ⟨bl, off + 2, none⟩ = some (.int .u8 c2) ∧ w'.cell? ⟨bl, off + 3, none⟩ = some (.int .u8 c3) ∧ w'.cell? ⟨bl, off + 4, none⟩ = some (.int .u8 c4) ∧ w'.cell? ⟨bl, off + 5, none⟩ = some (.int .u8 c5) ∧ w'.cell? ⟨bl, off + 6, none⟩ = some (.int .u8 c6) ∧ w'.cell? ⟨bl, off + 7, none⟩ = some (.int .u8 c7) from by
    have hbl : bl < w.heap.size := by obtain ⟨b', o', e, hb, _⟩ := h.at_ (by omega); cases e; exact hb
    exact ⟨(hk.cell hbl (fun h => h)).trans x0, (hk.cell hbl (fun h => h)).trans x2, (hk.cell hbl (fun h => h)).trans x3, (hk.cell hbl (fun h => h)).trans x4, (hk.cell hbl (fun h => h)).trans x5, (hk.cell hbl (fun h => h)).trans x6, (hk.cell hbl (fun h => h)).trans x7⟩)
  have HB := Lib.hid h
  have i0 : 0 < L := by omega
  have i2 : 2 < L := by omega
  have i3 : 3 < L := by omega
  have i4 : 4 < L := by omega
  have i5 : 5 < L := by omega
  have i6 : 6 < L := by omega
  have i7 : 7 < L := by omega
  obtain ⟨nn, hnn⟩ : ∃ nn, nn = c2 + c3 * 256 := ⟨_, rfl⟩
  have e1 := or_two c2 c3 (by omega) (by omega)
  rw [← hnn] at e1
  obtain ⟨s1, hs1⟩ : ∃ s1, s1 = c4 + c5 * 256 := ⟨_, rfl⟩
  have e4 := or_two c4 c5 (by omega) (by omega)
  rw [← hs1] at e4
  obtain ⟨s2, hs2⟩ : ∃ s2, s2 = s1 + c6 * 65536 := ⟨_, rfl⟩
  have e5 := or_three s1 c6 (by omega) (by omega)
  rw [← hs2] at e5
  obtain ⟨s3, hs3⟩ : ∃ s3, s3 = s2 + c7 * 16777216 := ⟨_, rfl⟩
  have e6 := or_four s2 c7 (by omega) (by omega)
  rw [← hs3] at e6
  have s3b : s3 < 4294967296 := by omega
  have nnb : nn < 65536 := by omega
  have GL : Hid (getL zs = if sizeZ nn = 0 ∨ (L : Int) < sizeZ nn then none else if putL c0 s3 ((zs.drop 8).take nn) = zs.take (sizeZ nn).toNat then some ((c0 : Int), (s3 : Int), (zs.drop 8).take nn, sizeZ nn) else none) := by
    show getL zs = _
    unfold getL
    rw [if_neg (by omega), hz0, hz2, hz3, hz4, hz5, hz6, hz7]
    have q1 : (c2 : Int) + c3 * 256 = nn := by omega
    have q2 : (c4 : Int) + c5 * 256 + c6 * 65536 + c7 * 16777216 = s3 := by omega
    simp only [q1, q2, hl, Int.toNat_natCast]
  clear hz0 hz0' hz2 hz3 hz4 hz5 hz6 hz7 hnn hs1 hs2 hs3 x0 x2 x3 x4 x5 x6 x7 h hl g1
  go_enter Try.func52, Try.ntmps52
  go_wp2
  obtain ⟨wb, hwb⟩ : ∃ x, w.alloc (.cells #[.int .i64 0, .int .i64 0, .slice none 0 0] 40) = x := ⟨_, rfl⟩
  have BB : Hid (Blk wb w.heap.size [.int .i64 0, .int .i64 0, .slice none 0 0] 40) := by rw [← hwb]; exact Blk.new w [.int .i64 0, .int .i64 0, .slice none 0 0] 40
  have KB : Hid (Keeps None w wb) := by rw [← hwb]; exact (Keeps.refl None w).alloc _
  rw [hwb]
  clear hwb
  obtain ⟨mS, mh⟩ : ∃ S : World → Prop, ∀ w', S w' ↔ (w'.cell? ⟨bl, off + 2, none⟩ = some (.int .u8 c2) ∧ w'.cell? ⟨bl, off + 3, none⟩ = some (.int .u8 c3)) := ⟨_, fun _ => Iff.rfl⟩
  have mk0 : ∀ x : Memb mS, x.at_.cell? ⟨bl, off + 2, none⟩ = some (.int .u8 c2) := fun x => ((mh _).1 x.is).1
  have mk1 : ∀ x : Memb mS, x.at_.cell? ⟨bl, off + 3, none⟩ = some (.int .u8 c3) := fun x => ((mh _).1 x.is).2
  have mn : Nonempty (Memb mS) := ⟨⟨(wb).drew, (mh _).2 ⟨(XC.out wb KB.out).2.1, (XC.out wb KB.out).2.2.1⟩⟩⟩
  have mH := Lib.hid mh
  clear mh
  refine wp_region_mix [] (InS mS) (by kernel_rfl) (by kernel_rfl) (InS.mk ((mH.out _).2 ⟨(XC.out wb KB.out).2.1, (XC.out wb KB.out).2.2.1⟩)) ?_
  refine wpMix_seg 11 (by kernel_rfl) (by decide) ?_
  simp only [List.take_succ_cons, List.take_zero, List.drop_succ_cons, List.drop_zero]
  repeat (go_big_quiet_step (fail))
  refine wpQuiet_nil ?_
  refine wpMix_nil ?_
  clear mk0 mk1 mn mH
  go_wp2_with fail
  refine (ssize_any nn _).mono ?_
  rintro e w' ⟨rfl, rfl⟩
  by_cases g2 : 512 < nn
  · have z1 : sizeZ nn = 0 := if_pos (.inr (by omega))
    have GN : Hid (getL zs = none) := by rw [GL.out]; exact if_pos (.inl z1)
    rw [z1]
    clear GL HB e4 e5 e6 XC
    have qq0 := Blk.cellD (BB.out) 0 _ rfl
    have qq1 := Blk.cellD (BB.out) 1 _ rfl
    have qq2 := Blk.cellD (BB.out) 2 _ rfl
    have qf0 := Blk.frozen (BB.out) 0
    have qf1 := Blk.frozen (BB.out) 1
    have qf2 := Blk.frozen (BB.out) 2
    go_wp2
    refine bodyPost_ret (get_res _ ((((Blk.set (BB.out.drew) 0 _)).set 1 _).set 2 _) rfl rfl rfl) rfl ?_
    exact ⟨0, 0, _, [], 0, false, rfl, Own.nil _ _, ((Keeps.setCell (KB.out.drew) _ _ (fun h => absurd h (Nat.lt_irrefl _))).setCell _ _ (fun h => absurd h (Nat.lt_irrefl _))).setCell _ _ (fun h => absurd h (Nat.lt_irrefl _)), .inr ⟨rfl, GN.out, rfl, rfl, rfl, rfl⟩⟩
  obtain ⟨sz, hsz⟩ : ∃ sz : Nat, sizeZ nn = sz := ⟨(sizeZ nn).toNat, by unfold sizeZ; split <;> omega⟩
  have hsz2 : sz = 16 + (nn + 7) / 8 * 8 := by
    have : sizeZ nn = 16 + ((nn : Int) + 7) / 8 * 8 := if_neg (by omega)
    omega
  rw [hsz] at GL ⊢
  have HSZ2 := Lib.hid hsz2
  have szb : nn + 16 ≤ sz := by omega
  have szc : sz ≤ 600 := by omega
  clear hsz hsz2
  by_cases g3 : L < sz
  · have z1 : ((sz : Int) == 0) = false := by simp; omega
    have z2 : decide ((L : Int) < sz) = true := decide_eq_true (by omega)
    have GN : Hid (getL zs = none) := by rw [GL.out]; exact if_pos (.inr (by omega))
    clear GL HB e4 e5 e6 XC
    have qq0 := Blk.cellD (BB.out) 0 _ rfl
    have qq1 := Blk.cellD (BB.out) 1 _ rfl
    have qq2 := Blk.cellD (BB.out) 2 _ rfl
    have qf0 := Blk.frozen (BB.out) 0
    have qf1 := Blk.frozen (BB.out) 1
    have qf2 := Blk.frozen (BB.out) 2
    go_wp2
    refine bodyPost_ret (get_res _ ((((Blk.set (BB.out.drew) 0 _)).set 1 _).set 2 _) rfl rfl rfl) rfl ?_
    exact ⟨0, 0, _, [], 0, false, rfl, Own.nil _ _, ((Keeps.setCell (KB.out.drew) _ _ (fun h => absurd h (Nat.lt_irrefl _))).setCell _ _ (fun h => absurd h (Nat.lt_irrefl _))).setCell _ _ (fun h => absurd h (Nat.lt_irrefl _)), .inr ⟨rfl, GN.out, rfl, rfl, rfl, rfl⟩⟩
  have z1 : ((sz : Int) == 0) = false := by simp; omega
  have z2 : decide ((L : Int) < sz) = false := decide_eq_false (by omega)
  have GL2 : Hid (getL zs = if putL c0 s3 ((zs.drop 8).take nn) = zs.take sz then some ((c0 : Int), (s3 : Int), (zs.drop 8).take nn, (sz : Int)) else none) := by
    show getL zs = _
    rw [GL.out, if_neg (show ¬ ((sz : Int) = 0 ∨ (L : Int) < sz) by omega), Int.toNat_natCast]
  clear GL
  go_wp2
  obtain ⟨mS, mh⟩ : ∃ S : World → Prop, ∀ w', S w' ↔ (w'.cell? ⟨bl, off + 4, none⟩ = some (.int .u8 c4) ∧ w'.cell? ⟨bl, off + 5, none⟩ = some (.int .u8 c5) ∧ w'.cell? ⟨bl, off + 6, none⟩ = some (.int .u8 c6) ∧ w'.cell? ⟨bl, off + 7, none⟩ = some (.int .u8 c7)) := ⟨_, fun _ => Iff.rfl⟩
  have mk0 : ∀ x : Memb mS, x.at_.cell? ⟨bl, off + 4, none⟩ = some (.int .u8 c4) := fun x => ((mh _).1 x.is).1
  have mk1 : ∀ x : Memb mS, x.at_.cell? ⟨bl, off + 5, none⟩ = some (.int .u8 c5) := fun x => ((mh _).1 x.is).2.1
  have mk2 : ∀ x : Memb mS, x.at_.cell? ⟨bl, off + 6, none⟩ = some (.int .u8 c6) := fun x => ((mh _).1 x.is).2.2.1
  have mk3 : ∀ x : Memb mS, x.at_.cell? ⟨bl, off + 7, none⟩ = some (.int .u8 c7) := fun x => ((mh _).1 x.is).2.2.2
  have mn : Nonempty (Memb mS) := ⟨⟨(wb.drew).drew, (mh _).2 ⟨(XC.out _ KB.out.drew).2.2.2.1, (XC.out _ KB.out.drew).2.2.2.2.1, (XC.out _ KB.out.drew).2.2.2.2.2.1, (XC.out _ KB.out.drew).2.2.2.2.2.2⟩⟩⟩
  have mH := Lib.hid mh
  clear mh
  refine wp_region_mix [] (InS mS) (by kernel_rfl) (by kernel_rfl) (InS.mk ((mH.out _).2 ⟨(XC.out _ KB.out.drew).2.2.2.1, (XC.out _ KB.out.drew).2.2.2.2.1, (XC.out _ KB.out.drew).2.2.2.2.2.1, (XC.out _ KB.out.drew).2.2.2.2.2.2⟩)) ?_
  refine wpMix_seg 23 (by kernel_rfl) (by decide) ?_
  simp only [List.take_succ_cons, List.take_zero, List.drop_succ_cons, List.drop_zero]
  repeat (go_big_quiet_step (fail))
  refine wpQuiet_nil ?_
  refine wpMix_nil ?_
  clear mk0 mk1 mk2 mk3 mn mH
  go_wp2
  clear e1 e4 e5 e6 z1 z2
  obtain ⟨wc, hwc⟩ : ∃ x, wb.drew.drew = x := ⟨_, rfl⟩
  have BC : Hid (Blk wc w.heap.size [.int .i64 0, .int .i64 0, .slice none 0 0] 40) := by rw [← hwc]; exact BB.out.drew.drew
  have KC : Hid (Keeps None w wc) := by rw [← hwc]; exact KB.out.drew.drew
  rw [hwc]
  clear hwc BB KB
  have hc8 : ¬ cap = 8 := by omega
  have BODY := Lib.hid ((HB.out.drop (k := 8) (by omega)).take (k := nn) (by omega))
  have PRE := Lib.hid (HB.out.take (k := sz) (by omega))
  obtain ⟨bd, hbd⟩ : ∃ bd, (zs.drop 8).take nn = bd := ⟨_, rfl⟩
  rw [hbd] at BODY GL2
  have HBL := Lib.hid BODY.out.len
  have X0 := Lib.hid (fun (w' : World) (hk : Keeps None w w') => (show w'.cell? ⟨bl, off, none⟩ = some (.int .u8 c0) from (XC.out w' hk).1))
  clear hbd XC
  obtain ⟨mS, mh⟩ : ∃ S : World → Prop, ∀ w', S w' ↔ (w'.cell? ⟨bl, off, none⟩ = some (.int .u8 c0)) := ⟨_, fun _ => Iff.rfl⟩
  have mk0 : ∀ x : Memb mS, x.at_.cell? ⟨bl, off, none⟩ = some (.int .u8 c0) := fun x => ((mh _).1 x.is)
  have mn : Nonempty (Memb mS) := ⟨⟨(wc).drew, (mh _).2 (X0.out _ KC.out.drew)⟩⟩
  have mH := Lib.hid mh
  clear mh
  refine wp_region_mix_swap [9, 11, 12] (InS mS) 9 11 12 9 11 (by kernel_rfl) (by kernel_rfl) (InS.mk ((mH.out _).2 (X0.out _ KC.out.drew))) ?_ ?_
  ·
    refine wpMix_seg 9 (by kernel_rfl) (by decide) ?_
    simp only [List.take_succ_cons, List.take_zero, List.drop_succ_cons, List.drop_zero, Nat.reduceSub]
    repeat (go_big_quiet_step (fail))
    refine wpQuiet_nil ?_
    refine wpMix_eff (by kernel_rfl) ?_
    go_wp2_with fail
    refine (clone_any _ nn _ bd _ (BODY.out.keeps KC.out.drew (fun _ _ _ _ _ h => h)) (by omega)).mono ?_
    rintro e w2 ⟨v2, rfl, o2, k2⟩
    obtain ⟨A2, cap2, rfl, bs2, -⟩ := o2.shape
    have K2 := Lib.hid (KC.out.drew.trans k2 (T := None) (fun _ h => h) (fun _ _ h => h))
    have R2 := Lib.hid (k2.blk BC.out.drew (fun h => h))
    have V2 := Lib.hid (o2.lower (B' := w.heap.size + 1) BC.out.lt)
    clear o2 k2 bs2
    go_wp2
    refine MixK.on (InS.mk ((mH.out _).2 (X0.out _ K2.out))) ?_
    refine wpMix_seg 1 (by kernel_rfl) (by decide) ?_
    simp only [List.take_succ_cons, List.take_zero, List.drop_succ_cons, List.drop_zero, Nat.reduceSub]
    repeat (go_big_quiet_step (fail))
    refine wpQuiet_nil ?_
    refine wpMix_eff (by kernel_rfl) ?_
    go_wp2
    refine MixK.on (InS.mk ((mH.out _).2 (X0.out _ (K2.out.alloc _)))) ?_
    refine wpMix_eff (by kernel_rfl) ?_
    go_wp2
    have K3 := Lib.hid (K2.out.alloc (.cells #[.int .i64 c0, .int .i64 s3, .slice A2 bd.length cap2] 40))
    have R3 := Lib.hid (R2.out.alloc (.cells #[.int .i64 c0, .int .i64 s3, .slice A2 bd.length cap2] 40))
    have N3 := Lib.hid (Blk.new w2 [.int .i64 c0, .int .i64 s3, .slice A2 bd.length cap2] 40)
    have V3 := Lib.hid (V2.out.alloc (.cells #[.int .i64 c0, .int .i64 s3, .slice A2 bd.length cap2] 40))
    clear K2 R2 V2
    obtain ⟨w3, hw3⟩ : ∃ x, w2.alloc (.cells #[.int .i64 c0, .int .i64 s3, .slice A2 bd.length cap2] 40) = x := ⟨_, rfl⟩
    obtain ⟨rb, hrb⟩ : ∃ x, w2.heap.size = x := ⟨_, rfl⟩
    rw [hw3] at K3 R3 N3 V3 ⊢
    rw [hrb] at N3 ⊢
    clear hw3 hrb
    refine MixK.on (InS.mk ((mH.out _).2 (X0.out _ K3.out))) ?_
    refine wpMix_nil ?_
    clear mk0 mn mH
    clear BC KC X0 BODY
    have hbl6 : bd.length ≤ 1000000 := by rw [HBL.out]; omega
    have PUT := Lib.hid (fun w h => sput_any c0 s3 A2 bd.length cap2 bd w h hbl6)
    have BD3 := Lib.hid (own_bs V3.out)
    have P3 := Lib.hid (PRE.out.keeps K3.out (fun _ _ _ _ _ h => h))
    have EQ := Lib.hid (fun A5 n5 c5 w h1 h2 => bequal_any A5 (some ⟨bl, off, none⟩) n5 sz c5 cap (putL c0 s3 bd) (zs.take sz) w h1 h2)
    obtain ⟨pb, hpb⟩ : ∃ b, decide (putL c0 s3 bd = zs.take sz) = b := ⟨_, rfl⟩
    rw [hpb] at EQ
    have HPB := Lib.hid hpb
    clear hpb PRE HB
    go_wp2
    obtain ⟨mS, mh⟩ : ∃ S : World → Prop, ∀ w', S w' ↔ (w'.cell? ⟨rb, 0, none⟩ = some (.int .i64 c0) ∧ w'.cell? ⟨rb, 1, none⟩ = some (.int .i64 s3) ∧ w'.cell? ⟨rb, 2, none⟩ = some (.slice A2 bd.length cap2)) := ⟨_, fun _ => Iff.rfl⟩
    have mk0 : ∀ x : Memb mS, x.at_.cell? ⟨rb, 0, none⟩ = some (.int .i64 c0) := fun x => ((mh _).1 x.is).1
    have mk1 : ∀ x : Memb mS, x.at_.cell? ⟨rb, 1, none⟩ = some (.int .i64 s3) := fun x => ((mh _).1 x.is).2.1
    have mk2 : ∀ x : Memb mS, x.at_.cell? ⟨rb, 2, none⟩ = some (.slice A2 bd.length cap2) := fun x => ((mh _).1 x.is).2.2
    have mn : Nonempty (Memb mS) := ⟨⟨(w3).drew, (mh _).2 ⟨N3.out.cellD 0 _ rfl, N3.out.cellD 1 _ rfl, N3.out.cellD 2 _ rfl⟩⟩⟩
    have mH := Lib.hid mh
    clear mh
    refine wp_region_mix [1, 5] (InS mS) (by kernel_rfl) (by kernel_rfl) (InS.mk ((mH.out _).2 ⟨N3.out.cellD 0 _ rfl, N3.out.cellD 1 _ rfl, N3.out.cellD 2 _ rfl⟩)) ?_
    refine wpMix_seg 1 (by kernel_rfl) (by decide) ?_
    simp only [List.take_succ_cons, List.take_zero, List.drop_succ_cons, List.drop_zero]
    repeat (go_big_quiet_step (fail))
    refine wpQuiet_nil ?_
    refine wpMix_eff (by kernel_rfl) ?_
    go_wp2_with fail
    refine (PUT.out _ BD3.out.drew).mono ?_
    rintro e w5 ⟨v5, rfl, o5, k5⟩
    obtain ⟨A5, cap5, rfl, bs5, -⟩ := o5.shape
    have K5 := Lib.hid (K3.out.drew.trans k5 (T := None) (fun _ h => h) (fun _ _ h => h))
    have R5 := Lib.hid (k5.blk R3.out.drew (fun h => h))
    have N5 := Lib.hid (k5.blk N3.out.drew (fun h => h))
    have V5 := Lib.hid (V3.out.drew.keeps k5 (fun _ _ h => h))
    have P5 := Lib.hid (P3.out.drew.keeps k5 (fun _ _ _ _ _ h => h))
    have BS5 := Lib.hid bs5
    clear o5 k5 bs5 K3 R3 V3 P3 PUT BD3
    go_wp2
    refine MixK.on (InS.mk ((mH.out _).2 (⟨N5.out.cellD 0 _ rfl, N5.out.cellD 1 _ rfl, N5.out.cellD 2 _ rfl⟩))) ?_
    refine wpMix_seg 3 (by kernel_rfl) (by decide) ?_
    simp only [List.take_succ_cons, List.take_zero, List.drop_succ_cons, List.drop_zero]
    repeat (go_big_quiet_step (fail))
    refine wpQuiet_nil ?_
    refine wpMix_eff (by kernel_rfl) ?_
    go_wp2_with fail
    refine (EQ.out _ _ _ w5 BS5.out P5.out).mono ?_
    rintro e w' ⟨rfl, rfl⟩
    go_wp2
    refine MixK.on (InS.mk ((mH.out _).2 (⟨N5.out.cellD 0 _ rfl, N5.out.cellD 1 _ rfl, N5.out.cellD 2 _ rfl⟩))) ?_
    refine wpMix_seg 1 (by kernel_rfl) (by decide) ?_
    simp only [List.take_succ_cons, List.take_zero, List.drop_succ_cons, List.drop_zero]
    repeat (go_big_quiet_step (fail))
    refine wpQuiet_nil ?_
    refine wpMix_nil ?_
    clear mk0 mk1 mk2 mn mH
    clear EQ BS5 P5
    cases pb with
    | false =>
      have GN : Hid (getL zs = none) := by
        show getL zs = none
        rw [GL2.out]; exact if_neg (of_decide_eq_false HPB.out)
      clear GL2 V5 N5 N3
      have qq0 := Blk.cellD (R5.out) 0 _ rfl
      have qq1 := Blk.cellD (R5.out) 1 _ rfl
      have qq2 := Blk.cellD (R5.out) 2 _ rfl
      have qf0 := Blk.frozen (R5.out) 0
      have qf1 := Blk.frozen (R5.out) 1
      have qf2 := Blk.frozen (R5.out) 2
      go_wp2
      refine bodyPost_ret (get_res _ ((((Blk.set (R5.out) 0 _)).set 1 _).set 2 _) rfl rfl rfl) rfl ?_
      exact ⟨0, 0, _, [], 0, false, rfl, Own.nil _ _, ((Keeps.setCell (K5.out) _ _ (fun h => absurd h (Nat.lt_irrefl _))).setCell _ _ (fun h => absurd h (Nat.lt_irrefl _))).setCell _ _ (fun h => absurd h (Nat.lt_irrefl _)), .inr ⟨rfl, GN.out, rfl, rfl, rfl, rfl⟩⟩
    | true =>
      have GS : Hid (getL zs = some ((c0 : Int), (s3 : Int), bd, (sz : Int))) := by
        show getL zs = _
        rw [GL2.out]; exact if_pos (of_decide_eq_true HPB.out)
      have rq0 := N5.out.cellD 0 _ rfl
      have rq1 := N5.out.cellD 1 _ rfl
      have rq2 := N5.out.cellD 2 _ rfl
      have qq0 := R5.out.cellD 0 _ rfl
      have qq1 := R5.out.cellD 1 _ rfl
      have qq2 := R5.out.cellD 2 _ rfl
      have qf0 := R5.out.frozen 0
      have qf1 := R5.out.frozen 1
      have qf2 := R5.out.frozen 2
      go_wp2
      refine bodyPost_ret (get_res _ ((((Blk.set (R5.out) 0 _)).set 1 _).set 2 _) rfl rfl rfl) rfl ?_
      exact ⟨c0, s3, _, bd, sz, true, rfl, ((V5.out.keeps (S := fun i => i = w.heap.size) ((((Keeps.refl (fun i => i = w.heap.size) w5).put 0 _).put 1 _).put 2 _) (fun b e h => V5.out.notBelow (i := b) (by omega) e)).lower (Nat.le_succ _)), ((K5.out.setCell _ _ (fun h => absurd h (Nat.lt_irrefl _))).setCell _ _ (fun h => absurd h (Nat.lt_irrefl _))).setCell _ _ (fun h => absurd h (Nat.lt_irrefl _)), .inl ⟨rfl, GS.out⟩⟩
  ·
    try dsimp only
    try simp only [List.take_succ_cons, List.take_zero, List.drop_succ_cons, List.drop_zero, Nat.reduceSub]
    refine wpMix_seg 9 (by kernel_rfl) (by decide) ?_
    simp only [List.take_succ_cons, List.take_zero, List.drop_succ_cons, List.drop_zero, Nat.reduceSub]
    repeat (go_big_quiet_step (fail))
    refine wpQuiet_nil ?_
    refine wpMix_nil ?_
    try dsimp only
    try simp only [List.take_succ_cons, List.take_zero, List.drop_succ_cons, List.drop_zero, Nat.reduceSub]
    refine wpMix_eff (by kernel_rfl) ?_
    go_wp2
    refine MixK.on (InS.mk ((mH.out _).2 (X0.out _ ((KC.out.alloc _).drew)))) ?_
    refine wpMix_nil ?_
    try dsimp only
    try simp only [List.take_succ_cons, List.take_zero, List.drop_succ_cons, List.drop_zero, Nat.reduceSub]
    refine wpMix_eff (by kernel_rfl) ?_
    go_wp2_with fail
    refine (clone_any _ nn _ bd _ (BODY.out.keeps (KC.out.alloc _).drew (fun _ _ _ _ _ h => h)) (by omega)).mono ?_
    rintro e w2 ⟨v2, rfl, o2, k2⟩
    obtain ⟨A2, cap2, rfl, bs2, -⟩ := o2.shape
    have K2 := Lib.hid ((KC.out.alloc (.cells #[.int .i64 0, .int .i64 0, .slice none 0 0] 40)).drew.trans k2 (T := None) (fun _ h => h) (fun _ _ h => h))
    have R2 := Lib.hid (k2.blk (BC.out.alloc (.cells #[.int .i64 0, .int .i64 0, .slice none 0 0] 40)).drew (fun h => h))
    have N2 := k2.blk (Blk.new wc [.int .i64 0, .int .i64 0, .slice none 0 0] 40).drew (fun h => h)
    have V2 := Lib.hid (o2.lower (B' := w.heap.size + 1) (Nat.le_trans BC.out.lt ((Keeps.refl None wc).alloc (.cells #[.int .i64 0, .int .i64 0, .slice none 0 0] 40)).size))
    have VN := Lib.hid (fun (b : Nat) (e : (Value.slice A2 bd.length cap2).ownBlock = some b) (h : b = wc.heap.size) => Own.notBelow o2 (i := b) (by subst h; simp) e)
    have nq0 := N2.cellD 0 _ rfl
    have nq1 := N2.cellD 1 _ rfl
    have nq2 := N2.cellD 2 _ rfl
    have nf0 := N2.frozen 0
    have nf1 := N2.frozen 1
    have nf2 := N2.frozen 2
    have HN2 := Lib.hid N2
    clear o2 k2 bs2 N2
    go_wp2
    refine MixK.on (InS.mk ((mH.out _).2 (X0.out _ K2.out))) ?_
    refine wpMix_seg 1 (by kernel_rfl) (by decide) ?_
    simp only [List.take_succ_cons, List.take_zero, List.drop_succ_cons, List.drop_zero, Nat.reduceSub]
    repeat (go_big_quiet_step (fail))
    refine wpQuiet_nil ?_
    refine wpMix_nil ?_
    try dsimp only
    try simp only [List.take_succ_cons, List.take_zero, List.drop_succ_cons, List.drop_zero, Nat.reduceSub]
    refine wpMix_eff (by kernel_rfl) ?_
    go_wp2
    have K3 := Lib.hid (((K2.out.setCell ⟨wc.heap.size, 0, none⟩ (.int .i64 c0) (fun h => absurd h (Nat.not_lt.2 KC.out.size))).setCell ⟨wc.heap.size, 1, none⟩ (.int .i64 s3) (fun h => absurd h (Nat.not_lt.2 KC.out.size))).setCell ⟨wc.heap.size, 2, none⟩ (.slice A2 bd.length cap2) (fun h => absurd h (Nat.not_lt.2 KC.out.size)))
    have R3 := Lib.hid (((R2.out.setOther ⟨wc.heap.size, 0, none⟩ (.int .i64 c0) (Nat.ne_of_lt BC.out.lt)).setOther ⟨wc.heap.size, 1, none⟩ (.int .i64 s3) (Nat.ne_of_lt BC.out.lt)).setOther ⟨wc.heap.size, 2, none⟩ (.slice A2 bd.length cap2) (Nat.ne_of_lt BC.out.lt))
    have N3 := Lib.hid (((HN2.out.set 0 (.int .i64 c0)).set 1 (.int .i64 s3)).set 2 (.slice A2 bd.length cap2))
    have V3 := Lib.hid (V2.out.keeps (S := fun i => i = wc.heap.size) ((((Keeps.refl (fun i => i = wc.heap.size) w2).put 0 (.int .i64 c0)).put 1 (.int .i64 s3)).put 2 (.slice A2 bd.length cap2)) (fun b e h => VN.out b e h))
    clear K2 R2 V2 HN2 nq0 nq1 nq2 nf0 nf1 nf2 VN
    obtain ⟨w3, hw3⟩ : ∃ x, ((w2.setCell ⟨wc.heap.size, 0, none⟩ (.int .i64 c0)).setCell ⟨wc.heap.size, 1, none⟩ (.int .i64 s3)).setCell ⟨wc.heap.size, 2, none⟩ (.slice A2 bd.length cap2) = x := ⟨_, rfl⟩
    obtain ⟨rb, hrb⟩ : ∃ x, wc.heap.size = x := ⟨_, rfl⟩
    rw [hw3] at K3 R3 N3 V3 ⊢
    rw [hrb] at N3 ⊢
    clear hw3 hrb
    refine MixK.on (InS.mk ((mH.out _).2 (X0.out _ K3.out))) ?_
    refine wpMix_nil ?_
    clear mk0 mn mH
    clear BC KC X0 BODY
    have hbl6 : bd.length ≤ 1000000 := by rw [HBL.out]; omega
    have PUT := Lib.hid (fun w h => sput_any c0 s3 A2 bd.length cap2 bd w h hbl6)
    have BD3 := Lib.hid (own_bs V3.out)
    have P3 := Lib.hid (PRE.out.keeps K3.out (fun _ _ _ _ _ h => h))
    have EQ := Lib.hid (fun A5 n5 c5 w h1 h2 => bequal_any A5 (some ⟨bl, off, none⟩) n5 sz c5 cap (putL c0 s3 bd) (zs.take sz) w h1 h2)
    obtain ⟨pb, hpb⟩ : ∃ b, decide (putL c0 s3 bd = zs.take sz) = b := ⟨_, rfl⟩
    rw [hpb] at EQ
    have HPB := Lib.hid hpb
    clear hpb PRE HB
    go_wp2
    obtain ⟨mS, mh⟩ : ∃ S : World → Prop, ∀ w', S w' ↔ (w'.cell? ⟨rb, 0, none⟩ = some (.int .i64 c0) ∧ w'.cell? ⟨rb, 1, none⟩ = some (.int .i64 s3) ∧ w'.cell? ⟨rb, 2, none⟩ = some (.slice A2 bd.length cap2)) := ⟨_, fun _ => Iff.rfl⟩
    have mk0 : ∀ x : Memb mS, x.at_.cell? ⟨rb, 0, none⟩ = some (.int .i64 c0) := fun x => ((mh _).1 x.is).1
    have mk1 : ∀ x : Memb mS, x.at_.cell? ⟨rb, 1, none⟩ = some (.int .i64 s3) := fun x => ((mh _).1 x.is).2.1
    have mk2 : ∀ x : Memb mS, x.at_.cell? ⟨rb, 2, none⟩ = some (.slice A2 bd.length cap2) := fun x => ((mh _).1 x.is).2.2
    have mn : Nonempty (Memb mS) := ⟨⟨(w3).drew, (mh _).2 ⟨N3.out.cellD 0 _ rfl, N3.out.cellD 1 _ rfl, N3.out.cellD 2 _ rfl⟩⟩⟩
    have mH := Lib.hid mh
    clear mh
    refine wp_region_mix [1, 5] (InS mS) (by kernel_rfl) (by kernel_rfl) (InS.mk ((mH.out _).2 ⟨N3.out.cellD 0 _ rfl, N3.out.cellD 1 _ rfl, N3.out.cellD 2 _ rfl⟩)) ?_
    refine wpMix_seg 1 (by kernel_rfl) (by decide) ?_
    simp only [List.take_succ_cons, List.take_zero, List.drop_succ_cons, List.drop_zero]
    repeat (go_big_quiet_step (fail))
    refine wpQuiet_nil ?_
    refine wpMix_eff (by kernel_rfl) ?_
    go_wp2_with fail
    refine (PUT.out _ BD3.out.drew).mono ?_
    rintro e w5 ⟨v5, rfl, o5, k5⟩
    obtain ⟨A5, cap5, rfl, bs5, -⟩ := o5.shape
    have K5 := Lib.hid (K3.out.drew.trans k5 (T := None) (fun _ h => h) (fun _ _ h => h))
    have R5 := Lib.hid (k5.blk R3.out.drew (fun h => h))
    have N5 := Lib.hid (k5.blk N3.out.drew (fun h => h))
    have V5 := Lib.hid (V3.out.drew.keeps k5 (fun _ _ h => h))
    have P5 := Lib.hid (P3.out.drew.keeps k5 (fun _ _ _ _ _ h => h))
    have BS5 := Lib.hid bs5
    clear o5 k5 bs5 K3 R3 V3 P3 PUT BD3
    go_wp2
    refine MixK.on (InS.mk ((mH.out _).2 (⟨N5.out.cellD 0 _ rfl, N5.out.cellD 1 _ rfl, N5.out.cellD 2 _ rfl⟩))) ?_
    refine wpMix_seg 3 (by kernel_rfl) (by decide) ?_
    simp only [List.take_succ_cons, List.take_zero, List.drop_succ_cons, List.drop_zero]
    repeat (go_big_quiet_step (fail))
    refine wpQuiet_nil ?_
    refine wpMix_eff (by kernel_rfl) ?_
    go_wp2_with fail
    refine (EQ.out _ _ _ w5 BS5.out P5.out).mono ?_
    rintro e w' ⟨rfl, rfl⟩
    go_wp2
    refine MixK.on (InS.mk ((mH.out _).2 (⟨N5.out.cellD 0 _ rfl, N5.out.cellD 1 _ rfl, N5.out.cellD 2 _ rfl⟩))) ?_
    refine wpMix_seg 1 (by kernel_rfl) (by decide) ?_
    simp only [List.take_succ_cons, List.take_zero, List.drop_succ_cons, List.drop_zero]
    repeat (go_big_quiet_step (fail))
    refine wpQuiet_nil ?_
    refine wpMix_nil ?_
    clear mk0 mk1 mk2 mn mH
    clear EQ BS5 P5
    cases pb with
    | false =>
      have GN : Hid (getL zs = none) := by
        show getL zs = none
        rw [GL2.out]; exact if_neg (of_decide_eq_false HPB.out)
      clear GL2 V5 N5 N3
      have qq0 := Blk.cellD (R5.out) 0 _ rfl
      have qq1 := Blk.cellD (R5.out) 1 _ rfl
      have qq2 := Blk.cellD (R5.out) 2 _ rfl
      have qf0 := Blk.frozen (R5.out) 0
      have qf1 := Blk.frozen (R5.out) 1
      have qf2 := Blk.frozen (R5.out) 2
      go_wp2
      refine bodyPost_ret (get_res _ ((((Blk.set (R5.out) 0 _)).set 1 _).set 2 _) rfl rfl rfl) rfl ?_
      exact ⟨0, 0, _, [], 0, false, rfl, Own.nil _ _, ((Keeps.setCell (K5.out) _ _ (fun h => absurd h (Nat.lt_irrefl _))).setCell _ _ (fun h => absurd h (Nat.lt_irrefl _))).setCell _ _ (fun h => absurd h (Nat.lt_irrefl _)), .inr ⟨rfl, GN.out, rfl, rfl, rfl, rfl⟩⟩
    | true =>
      have GS : Hid (getL zs = some ((c0 : Int), (s3 : Int), bd, (sz : Int))) := by
        show getL zs = _
        rw [GL2.out]; exact if_pos (of_decide_eq_true HPB.out)
      have rq0 := N5.out.cellD 0 _ rfl
      have rq1 := N5.out.cellD 1 _ rfl
      have rq2 := N5.out.cellD 2 _ rfl
      have qq0 := R5.out.cellD 0 _ rfl
      have qq1 := R5.out.cellD 1 _ rfl
      have qq2 := R5.out.cellD 2 _ rfl
      have qf0 := R5.out.frozen 0
      have qf1 := R5.out.frozen 1
      have qf2 := R5.out.frozen 2
      go_wp2
      refine bodyPost_ret (get_res _ ((((Blk.set (R5.out) 0 _)).set 1 _).set 2 _) rfl rfl rfl) rfl ?_
      exact ⟨c0, s3, _, bd, sz, true, rfl, ((V5.out.keeps (S := fun i => i = w.heap.size) ((((Keeps.refl (fun i => i = w.heap.size) w5).put 0 _).put 1 _).put 2 _) (fun b e h => V5.out.notBelow (i := b) (by omega) e)).lower (Nat.le_succ _)), ((K5.out.setCell _ _ (fun h => absurd h (Nat.lt_irrefl _))).setCell _ _ (fun h => absurd h (Nat.lt_irrefl _))).setCell _ _ (fun h => absurd h (Nat.lt_irrefl _)), .inl ⟨rfl, GS.out⟩⟩
end Go.Proofs.Ytgehkioneelgcaa
