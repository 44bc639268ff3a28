
/- The walk of the reference's GetCommit. -/
import Derived.Test.YtfldgaiiniknpaaLFoXLgRefPut
import Derived.Test.YtfldgaiiniknpaaLFog
namespace Go.Proofs.Ytfldgaiiniknpaa
open Go.RowKit

/-- The first bytes of a row, zeros behind them. -/
def fillTo (src : List Int) (n k : Nat) : List Int := src.take k ++ List.replicate (n - k) 0
theorem fillTo_len {src : List Int} {n k : Nat} (h : src.length = n) (hk : k ≤ n) : (fillTo src n k).length = n := by simp [fillTo]; omega
theorem fillTo_all {src : List Int} {n : Nat} (h : src.length = n) : fillTo src n n = src := by simp [fillTo, List.take_of_length_le (Nat.le_of_eq h)]
theorem fillTo_set {src : List Int} {n k : Nat} (h : src.length = n) (hk : k < n) : (fillTo src n k).set k (src.getD k 0) = fillTo src n (k + 1) := by
  unfold fillTo
  obtain ⟨d, hd⟩ : ∃ d, n - k = d + 1 := ⟨n - k - 1, by omega⟩
  rw [hd, show n - (k + 1) = d by omega, List.replicate_succ, List.set_append_right _ _ (by rw [List.length_take]; omega), List.length_take, Nat.min_eq_left (by omega), Nat.sub_self, List.set_cons_zero, List.take_add_one, List.append_assoc, List.getElem?_eq_getElem (by omega)]
  simp [List.getD_eq_getElem?_getD, List.getElem?_eq_getElem (show k < src.length by omega)]

/-- What the reference reads: a length may be wrong in another way. -/
def comR (b : List Int) (L : Int) : Com := ⟨b.getD 0 0, part8 b 8, part8 b 16, L, b.drop 32⟩
theorem comR_get {b : List Int} {L : Int} (h : (part8 b 24 ≤ 2147483647 ∧ L = part8 b 24) ∨ (2147483647 < part8 b 24 ∧ (L < 0 ∨ 2147483647 < L))) (hl : b.length = 96) : getCom b = if comL (comR b L) = b then (comR b L, true) else (com0, false) := by
  rcases h with ⟨h1, h2⟩ | ⟨h1, h2⟩
  · have e : comR b L = comP b := by unfold comR comP smallN; rw [if_pos h1, h2]
    rw [e]
    unfold getCom
    simp [hl]
  · have e1 : comL (comR b L) = [] := if_neg (fun h => by obtain ⟨-, -, f1, f2⟩ := h; have g1 : 0 ≤ L := f1; have g2 : L ≤ 2147483647 := f2; omega)
    have e2 : comL (comP b) = [] := if_neg (fun h => by
      obtain ⟨-, -, f1, f2⟩ := h
      have e : (comP b).len = -1 := if_neg (by omega)
      rw [e] at f1
      omega)
    unfold getCom
    rw [e1, e2, if_neg (by rintro ⟨-, h⟩; rw [← h] at hl; cases hl), if_neg (by intro h; rw [← h] at hl; cases hl)]
theorem wrap_len {n : Nat} {L : Int} (h : wrap64 (n : Int) = L) (hn : n < 18446744073709551616) : (n ≤ 2147483647 ∧ L = n) ∨ (2147483647 < n ∧ (L < 0 ∨ 2147483647 < L)) := by
  rw [← h]
  unfold wrap64
  omega
theorem Com.cs_me (c : Com) (hm : c.me.length = 64) (k : Nat) (hk : k < 64) : c.cs[4 + k]? = some (.int .u8 (c.me.getD k 0)) := by
  rw [Nat.add_comm]
  show (c.me.map (Value.int .u8))[k]? = _
  exact map_getD 0 (by omega)
theorem Com.cs_set (c : Com) (k : Nat) (z : Int) : c.cs.set (4 + k) (.int .u8 z) = ({ c with me := c.me.set k z } : Com).cs := by
  rw [Nat.add_comm]
  simp [Com.cs, List.map_set]
theorem built_com4 (s : Int) (a b : Nat) (l : Int) : (((Try.zeroCells25.setIfInBounds 0 (.int .i64 s)).setIfInBounds 1 (.int .u64 (a : Int))).setIfInBounds 2 (.int .u64 (b : Int))).setIfInBounds 3 (.int .i64 l) = (⟨s, a, b, l, List.replicate 64 0⟩ : Com).cs.toArray := by kernel_rfl
theorem Bs.cellK {w : World} {gb off n cap k : Nat} {zs : List Int} (h : Bs w (some ⟨gb, off, none⟩) n cap zs) (hk : k < n) : w.cell? ⟨gb, off + k, none⟩ = some (.int .u8 (zs.getD k 0)) := by
  obtain ⟨b, o, e, -, hc⟩ := h.at_ (by omega)
  cases e
  exact hc k hk
theorem getD_drop {zs : List Int} {k i : Nat} : (zs.drop k).getD i 0 = zs.getD (k + i) 0 := by
  rw [List.getD_eq_getElem?_getD, List.getElem?_drop, ← List.getD_eq_getElem?_getD]
theorem run_load_com {w : World} {g : Nat} {c : Com} {T : TypeId} (h : Blk w g c.cs T) (hl : c.cs.length = 68) : (Instr.loadAt 25 (.pointer (some ⟨g, 0, none⟩))).run Try.prog w = .ok (.agg c.cs.toArray) w :=
  run_loadAt_mid w g 0 25 c.cs _ (blk_range h (fun j v hv => by rw [Nat.zero_add]; exact hv)) Try.underlying25 rfl (by rw [hl]; exact com_size)
set_option maxRecDepth 100000 in
set_option maxHeartbeats 6400000 in
theorem rggetc_any (A : Option Addr) (n cap : Nat) (zs : List Int) (w : World) (h : Bs w A n cap zs) :
    Calls Try.prog 9 #[.slice A n cap] w fun e w' => e = .returned (.tuple #[(getCom zs).1.v, .bool (getCom zs).2]) ∧ Keeps None w w' := by
  have hle := h.le
  have hmx := h.max
  by_cases hn : n = 96
  case neg =>
    have d1 : ((n : Int) != 96) = true := by simp; omega
    have GN : Hid (getCom zs = (com0, false)) := if_neg (fun hh => hn (by rw [← h.len, hh.1]))
    clear h
    go_enter Try.func9, Try.ntmps9
    have NW := Lib.hid (Blk.new w com0.cs 25)
    have KW : Hid (Keeps None w (w.alloc (.cells com0.cs.toArray 25))) := (Keeps.refl None w).alloc _
    rw [← com_zero] at NW KW
    go_wp2_with (refine wpList_store_blk (b := w.heap.size) (o := 0) (ds := com0.cs) NW.out (by decide) (Com.cs_one _) rfl rfl rfl (by rw [← com_zero]; rfl) com_size ?_)
    intro w' hb hk
    rw [splice_all rfl] at hb
    have HB := Lib.hid hb
    have HK := Lib.hid (KW.out.trans hk (T := None) (fun _ h => h) (fun b hb e => absurd e (by omega)))
    clear hb hk NW KW
    go_wp2
    refine bodyPost_ret (cell_res rfl _ HB.out Try.underlying25 rfl com_size rfl rfl) rfl ?_
    exact ⟨by rw [GN.out]; rfl, HK.out⟩
  subst hn
  have HZ := Lib.hid h
  have HL := Lib.hid h.len
  obtain ⟨gb, off, rfl, hgb, hcel⟩ := h.at_ (by decide)
  have z0 := hcel 0 (by decide)
  have a0 := h.byte (zs.getD 0 0) (getD_mem 0 (by rw [h.len]; decide))
  obtain ⟨c0, hc0⟩ : ∃ c : Nat, zs.getD 0 0 = c := ⟨(zs.getD 0 0).toNat, by omega⟩
  have HC0 := Lib.hid hc0
  rw [hc0] at z0 a0
  have V1 := Lib.hid (fun w h => rsnumber_any (some ⟨gb, off + 8, none⟩) (16 - 8) (cap - 8) ((zs.drop 8).take 8) w h (by decide))
  have V2 := Lib.hid (fun w h => rsnumber_any (some ⟨gb, off + 16, none⟩) (24 - 16) (cap - 16) ((zs.drop 16).take 8) w h (by decide))
  have V3 := Lib.hid (fun w h => rsnumber_any (some ⟨gb, off + 24, none⟩) (32 - 24) (cap - 24) ((zs.drop 24).take 8) w h (by decide))
  rw [show numN ((zs.drop 8).take 8) = part8 zs 8 from rfl] at V1
  rw [show numN ((zs.drop 16).take 8) = part8 zs 16 from rfl] at V2
  rw [show numN ((zs.drop 24).take 8) = part8 zs 24 from rfl] at V3
  have PL := part8_lt h.byte 24
  clear h hcel hc0
  go_enter Try.func9, Try.ntmps9
  go_wp2
  obtain ⟨wb, hwb⟩ : ∃ x, w.alloc (.cells Try.zeroCells25 25) = x := ⟨_, rfl⟩
  have RB : Hid (Blk wb w.heap.size com0.cs 25) := by rw [← hwb, com_zero]; exact Blk.new w com0.cs 25
  have KB : Hid (Keeps None w wb) := by rw [← hwb]; exact (Keeps.refl None w).alloc _
  rw [hwb]
  clear hwb
  rw [Nat.add_zero] at z0
  have CB : Hid (∀ w2, Keeps None wb w2 → w2.cell? ⟨gb, off, none⟩ = some (.int .u8 (c0 : Int)) ∧ Bs w2 (some ⟨gb, off, none⟩) 96 cap zs) := fun w2 k =>
    have k2 := KB.out.trans k (T := None) (fun _ h => h) (fun _ _ h => h)
    ⟨(k2.cell hgb (fun h => h)).trans z0, HZ.out.keeps k2 (fun _ _ _ _ _ h => h)⟩
  have KR := Lib.hid (Keeps.refl None wb)
  clear z0
  have KC : Hid (Keeps None wb wb.drew) := (Keeps.refl None wb).drew
  obtain ⟨L, hL⟩ : ∃ x, wrap64 (part8 zs 24 : Int) = x := ⟨_, rfl⟩
  have HD : Hid ((zs.drop 32).length = 64) := by show _ = _; rw [List.length_drop, HL.out]
  have GC : Hid (getCom zs = if comL (comR zs L) = zs then (comR zs L, true) else (com0, false)) := comR_get (wrap_len hL PL) HL.out
  have COK : Hid (comR zs L).ok := ⟨part8_lt HZ.out.byte 8, part8_lt HZ.out.byte 16, HD.out, fun z hz => HZ.out.byte z (List.mem_of_mem_drop hz)⟩
  obtain ⟨C, hC⟩ : ∃ C : Com, (⟨(c0 : Int), part8 zs 8, part8 zs 16, L, List.replicate 64 0⟩ : Com) = C := ⟨_, rfl⟩
  have AG : Hid ((((Try.zeroCells25.setIfInBounds 0 (.int .i64 (c0 : Int))).setIfInBounds 1 (.int .u64 (part8 zs 8 : Int))).setIfInBounds 2 (.int .u64 (part8 zs 16 : Int))).setIfInBounds 3 (.int .i64 L) = C.cs.toArray) := by rw [← hC]; exact built_com4 _ _ _ _
  have CL : Hid (C.cs.length = 68) := by show _ = _; rw [← hC]; rfl
  have HCC := Lib.hid hC
  clear hC
  obtain ⟨mS, mh⟩ : ∃ S : World → Prop, ∀ w', S w' ↔ (w'.cell? ⟨gb, off, none⟩ = some (.int .u8 (c0 : Int))) := ⟨_, fun _ => Iff.rfl⟩
  have mk0 : ∀ x : Memb mS, x.at_.cell? ⟨gb, off, none⟩ = some (.int .u8 (c0 : Int)) := fun x => ((mh _).1 x.is)
  have mn : Nonempty (Memb mS) := ⟨⟨(wb).drew, (mh _).2 ((CB.out _ KR.out.drew).1)⟩⟩
  have mH := Lib.hid mh
  clear mh
  refine wp_region_mixT [6, 9, 12, 15, 16] (InS mS) 3 17 (by kernel_rfl) (by kernel_rfl) (by kernel_rfl) (by kernel_rfl) (InS.mk ((mH.out _).2 ((CB.out _ KR.out.drew).1))) ?_
  refine wpT_node2 (us := [(0, 17)]) [(4, 3)] [(0, 4), (7, 10)] [(15, 1)] [(0, 15), (16, 1)] (by kernel_rfl) ?_ ?_
  ·
    refine wpPs_cons ?_
    try simp only [List.take_succ_cons, List.take_zero, List.drop_succ_cons, List.drop_zero, Nat.reduceSub]
    refine wpMix_seg 2 (by kernel_rfl) (by decide) ?_
    simp only [List.take_succ_cons, List.take_zero, List.drop_succ_cons, List.drop_zero, Nat.reduceSub]
    repeat (go_big_quiet_step (fail))
    refine wpQuiet_nil ?_
    refine wpMix_eff (by kernel_rfl) ?_
    go_wp2_with fail
    refine (V1.out _ (((CB.out _ KC.out).2.drop (by decide)).take (by decide))).mono ?_
    rintro e w' ⟨rfl, rfl⟩
    go_wp2
    refine MixK.on (InS.mk ((mH.out _).2 (((CB.out _ KC.out).1)))) ?_
    refine wpMix_nil ?_
    refine wpPs_nil ?_
    refine wpT_node2 (us := [(0, 4), (7, 10)]) [(7, 3)] [(0, 4), (10, 7)] [(15, 1)] [(0, 4), (7, 8), (16, 1)] (by kernel_rfl) ?_ ?_
    ·
      refine wpPs_cons ?_
      try simp only [List.take_succ_cons, List.take_zero, List.drop_succ_cons, List.drop_zero, Nat.reduceSub]
      refine wpMix_seg 2 (by kernel_rfl) (by decide) ?_
      simp only [List.take_succ_cons, List.take_zero, List.drop_succ_cons, List.drop_zero, Nat.reduceSub]
      repeat (go_big_quiet_step (fail))
      refine wpQuiet_nil ?_
      refine wpMix_eff (by kernel_rfl) ?_
      go_wp2_with fail
      refine (V2.out _ (((CB.out _ KC.out).2.drop (by decide)).take (by decide))).mono ?_
      rintro e w' ⟨rfl, rfl⟩
      go_wp2
      refine MixK.on (InS.mk ((mH.out _).2 (((CB.out _ KC.out).1)))) ?_
      refine wpMix_nil ?_
      refine wpPs_nil ?_
      refine wpT_node2 (us := [(0, 4), (10, 7)]) [(10, 3)] [(0, 4), (13, 4)] [(15, 1)] [(0, 4), (10, 5), (16, 1)] (by kernel_rfl) ?_ ?_
      ·
        refine wpPs_cons ?_
        try simp only [List.take_succ_cons, List.take_zero, List.drop_succ_cons, List.drop_zero, Nat.reduceSub]
        refine wpMix_seg 2 (by kernel_rfl) (by decide) ?_
        simp only [List.take_succ_cons, List.take_zero, List.drop_succ_cons, List.drop_zero, Nat.reduceSub]
        repeat (go_big_quiet_step (fail))
        refine wpQuiet_nil ?_
        refine wpMix_eff (by kernel_rfl) ?_
        go_wp2_with fail
        refine (V3.out _ (((CB.out _ KC.out).2.drop (by decide)).take (by decide))).mono ?_
        rintro e w' ⟨rfl, rfl⟩
        go_wp2
        refine MixK.on (InS.mk ((mH.out _).2 (((CB.out _ KC.out).1)))) ?_
        refine wpMix_nil ?_
        refine wpPs_nil ?_
        refine wpT_leaf (ps := [(0, 4), (13, 4)]) (by kernel_rfl) ?_
        refine wpPs_cons ?_
        try simp only [List.take_succ_cons, List.take_zero, List.drop_succ_cons, List.drop_zero, Nat.reduceSub]
        refine wpMix_seg 4 (by kernel_rfl) (by decide) ?_
        simp only [List.take_succ_cons, List.take_zero, List.drop_succ_cons, List.drop_zero, Nat.reduceSub]
        repeat (go_big_quiet_step (fail))
        refine wpQuiet_nil ?_
        refine wpMix_nil ?_
        refine wpPs_cons ?_
        try simp only [List.take_succ_cons, List.take_zero, List.drop_succ_cons, List.drop_zero, Nat.reduceSub]
        refine wpMix_seg 2 (by kernel_rfl) (by decide) ?_
        simp only [List.take_succ_cons, List.take_zero, List.drop_succ_cons, List.drop_zero, Nat.reduceSub]
        repeat (go_big_quiet_step (fail))
        refine wpQuiet_nil ?_
        refine wpMix_eff (by kernel_rfl) ?_
        go_wp2
        first | (refine Exists.elim (⟨_, rfl⟩ : ∃ x, wb.drew.alloc (.cells Try.zeroCells25 25) = x) fun wy hwy => ?_; rw [hwy]) | (refine Exists.elim (⟨_, rfl⟩ : ∃ x, (wb.alloc (.cells Try.zeroCells25 25)).drew = x) fun wy hwy => ?_; rw [hwy])
        have NB : Hid (Blk wy wb.heap.size com0.cs 25) := by rw [← hwy, com_zero]; first | exact Blk.new wb.drew com0.cs 25 | exact (Blk.new wb com0.cs 25).drew
        have KD : Hid (Keeps None wb wy) := by rw [← hwy]; first | exact KC.out.alloc _ | exact ((Keeps.refl None wb).alloc _).drew
        clear KC hwy
        have KC := KD
        clear KD
        refine MixK.on (InS.mk ((mH.out _).2 (((CB.out _ KC.out).1)))) ?_
        refine wpMix_eff (by kernel_rfl) ?_
        go_wp2_with (refine wpList_store_blk (b := wb.heap.size) (o := 0) (ds := C.cs) NB.out (by rw [CL.out]; decide) (Com.cs_one _) rfl rfl rfl (congrArg Value.agg AG.out) (by rw [CL.out]; exact com_size) ?_)
        intro w3 b3 k3
        rw [splice_all (by rw [CL.out]; rfl)] at b3
        have N3 := Lib.hid b3
        have K3 : Hid (Keeps None wb w3) := KC.out.trans k3 (fun _ h => h) (fun b hb e => absurd e (by omega))
        have R3 : Hid (Blk w3 w.heap.size com0.cs 25) := K3.out.blk RB.out (fun h => h)
        clear b3 k3 NB KC
        go_wp2
        refine MixK.on (InS.mk ((mH.out _).2 (((CB.out _ K3.out).1)))) ?_
        refine wpMix_nil ?_
        refine wpPs_nil ?_
        clear mk0 mn mH
        have SZ : wb.heap.size < w3.heap.size := N3.out.lt
        have RW : Hid (w.heap.size < wb.heap.size) := RB.out.lt
        clear CL AG RB KR
        go_wp2
        go_loopw [5] (fun iv wr => ∃ k : Nat, k ≤ 64 ∧ iv = .int .i64 (k : Int) ∧ Blk wr wb.heap.size (⟨(c0 : Int), part8 zs 8, part8 zs 16, L, fillTo (zs.drop 32) 64 k⟩ : Com).cs 25 ∧ Blk wr w.heap.size com0.cs 25 ∧ Keeps None wb wr) (fun iv _ => 64 - (intOf iv).toNat)
        case atStart => exact ⟨0, by decide, rfl, by (have h := N3.out; rw [← HCC.out] at h; exact h), R3.out, K3.out⟩
        case round =>
          obtain ⟨k, hk64, rfl, hB, hR, hK⟩ := hrel
          have HB := Lib.hid hB
          have HR := Lib.hid hR
          have HK := Lib.hid hK
          clear hB hR hK N3 R3 K3
          by_cases hlt : k < 64
          · obtain ⟨z, hz⟩ : ∃ z, zs.getD (32 + k) 0 = z := ⟨_, rfl⟩
            have zc := (CB.out _ HK.out).2.cellK (k := 32 + k) (by omega)
            rw [hz] at zc
            have oc := HB.out.cellD (4 + k) _ (Com.cs_me _ (fillTo_len HD.out hk64) k hlt)
            have fz := HB.out.frozen (4 + k)
            have B2 : Hid (∀ w', w' = wr.setCell ⟨wb.heap.size, 4 + k, none⟩ (.int .u8 z) → Blk w' wb.heap.size (⟨(c0 : Int), part8 zs 8, part8 zs 16, L, fillTo (zs.drop 32) 64 (k + 1)⟩ : Com).cs 25 ∧ Blk w' w.heap.size com0.cs 25 ∧ Keeps None wb w') := by
              rintro w' rfl
              refine ⟨?_, HR.out.setOther _ _ (Nat.ne_of_lt RW.out), HK.out.trans ((Keeps.refl (fun b => b = wb.heap.size) _).setCell _ _ (fun _ => rfl)) (fun _ h => h) (fun b hb e => absurd e (by omega))⟩
              have h := HB.out.set (4 + k) (.int .u8 z)
              rw [Com.cs_set, ← hz, ← getD_drop, fillTo_set HD.out hlt] at h
              rw [← hz, ← getD_drop]
              exact h
            clear HB HR HK hz
            go_wp2
            go_roundw
            case rel =>
              obtain ⟨r1, r2, r3⟩ := B2.out _ rfl
              exact ⟨k + 1, by omega, by go_num, r1, r2, r3⟩
            case measure => simp [intOf]; omega
          · obtain rfl : k = 64 := by omega
            rw [fillTo_all HD.out] at HB
            obtain ⟨D, hD⟩ : ∃ D : Com, comR zs L = D := ⟨_, rfl⟩
            have GD : Hid (getCom zs = if comL D = zs then (D, true) else (com0, false)) := by rw [← hD]; exact GC.out
            have DO : Hid D.ok := by rw [← hD]; exact COK.out
            have BD : Hid (Blk wr wb.heap.size D.cs 25) := by
              have h := HB.out
              rw [← HC0.out, show (⟨zs.getD 0 0, part8 zs 8, part8 zs 16, L, zs.drop 32⟩ : Com) = comR zs L from rfl, hD] at h
              exact h
            clear HB GC COK hD hlt
            have PUT := Lib.hid (fun w => rgputc_any D DO.out w)
            unfold Com.v at PUT
            have HZr := Lib.hid (CB.out _ HK.out).2
            obtain ⟨sz, hsz⟩ : ∃ x, strOf zs = x := ⟨_, rfl⟩
            obtain ⟨sc, hsc⟩ : ∃ x, strOf (comL D) = x := ⟨_, rfl⟩
            have EQ : Hid (Byt (comL D) → (sc.toList == sz.toList) = decide (comL D = zs)) := fun hb => by rw [← hsz, ← hsc]; exact strOf_beq hb HZr.out.byte
            have HSZ := Lib.hid hsz
            have HSC := Lib.hid hsc
            clear hsz hsc
            go_wp2
            obtain ⟨qS, qh⟩ : ∃ S : World → Prop, ∀ w', S w' ↔ (((Instr.loadAt 25 (.pointer (some ⟨wb.heap.size, 0, none⟩))).run Try.prog w' = .ok (.agg D.cs.toArray) w') ∧ ((convert 27 9 (.slice (some ⟨gb, off, none⟩) 96 cap)).run Try.prog w' = .ok (.string sz) w')) := ⟨_, fun _ => Iff.rfl⟩
            have qk0 : ∀ x : Memb qS, (Instr.loadAt 25 (.pointer (some ⟨wb.heap.size, 0, none⟩))).run Try.prog x.at_ = .ok (.agg D.cs.toArray) x.at_ := fun x => ((qh _).1 x.is).1
            have qk1 : ∀ x : Memb qS, (convert 27 9 (.slice (some ⟨gb, off, none⟩) 96 cap)).run Try.prog x.at_ = .ok (.string sz) x.at_ := fun x => ((qh _).1 x.is).2
            have qn : Nonempty (Memb qS) := ⟨⟨(wr).drew, (qh _).2 ⟨run_load_com BD.out.drew (Com.cs_len DO.out), HSZ.out ▸ run_str HZr.out.drew⟩⟩⟩
            have qH := Lib.hid qh
            clear qh
            refine wp_region_mix2 [1] (InS qS) (by kernel_rfl) (by kernel_rfl) (InS.mk ((qH.out _).2 ⟨run_load_com BD.out.drew (Com.cs_len DO.out), HSZ.out ▸ run_str HZr.out.drew⟩)) ?_
            refine wpMix2_seg 1 (InS qS) (by kernel_rfl) (by decide) (cl_base [] rfl (by kernel_rfl)) ?_
            simp only [List.take_succ_cons, List.take_zero, List.drop_succ_cons, List.drop_zero]
            repeat (first | go_big_quiet_step (fail) | (go_big_quiet_want; first | refine quiet_load qk0 rfl rfl rfl (by simp only [Act.put, List.setIfInBounds_toArray, List.set_cons_succ, List.set_cons_zero]; rfl) ?_; go_big_quiet_on | refine quiet_conv qk1 rfl rfl rfl (by simp only [Act.put, List.setIfInBounds_toArray, List.set_cons_succ, List.set_cons_zero]; rfl) ?_; go_big_quiet_on))
            refine wpQuiet_nil ?_
            refine wpMix2_eff (by kernel_rfl) ?_
            go_wp2_with fail
            refine (PUT.out _).mono ?_
            rintro e w7 ⟨v7, rfl, o7, k7⟩
            obtain ⟨A7, cap7, rfl, bs7, -⟩ := o7.shape
            have BS7 := Lib.hid bs7
            have B7 := Lib.hid (k7.blk BD.out.drew (fun h => h))
            have R7 := Lib.hid (k7.blk HR.out.drew (fun h => h))
            have S7 := Lib.hid (HZr.out.drew.keeps k7 (fun _ _ _ _ _ h => h))
            have K7 := Lib.hid (HK.out.drew.trans k7 (T := None) (fun _ h => h) (fun _ _ h => h))
            obtain ⟨cl, hcl⟩ : ∃ x, (comL D).length = x := ⟨_, rfl⟩
            rw [hcl] at BS7 ⊢
            clear o7 bs7 k7 hcl
            go_wp2
            obtain ⟨qL2S, qL2h⟩ : ∃ S : World → Prop, ∀ w', S w' ↔ (((convert 27 9 (.slice A7 cl cap7)).run Try.prog w' = .ok (.string sc) w')) := ⟨_, fun _ => Iff.rfl⟩
            have qL2k0 : ∀ x : Memb qL2S, (convert 27 9 (.slice A7 cl cap7)).run Try.prog x.at_ = .ok (.string sc) x.at_ := fun x => ((qL2h _).1 x.is)
            have qL2n : Nonempty (Memb qL2S) := ⟨⟨_, (qL2h _).2 (HSC.out ▸ run_str BS7.out)⟩⟩
            have qL2H := Lib.hid qL2h
            clear qL2h
            refine MixK2.late (D := InS qL2S) (x := 2) (by kernel_rfl) (cls_cons (InS.mk ((qL2H.out _).2 (HSC.out ▸ run_str BS7.out))) (cls_base (InS.mk ((qH.out _).2 (⟨run_load_com B7.out (Com.cs_len DO.out), HSZ.out ▸ run_str S7.out⟩))))) ?_
            refine wpMix2_seg 1 (InS qL2S) (by kernel_rfl) (by decide) (cl_one rfl) ?_
            simp only [List.take_succ_cons, List.take_zero, List.drop_succ_cons, List.drop_zero]
            repeat (first | go_big_quiet_step (fail) | (go_big_quiet_want; first | refine quiet_load qk0 rfl rfl rfl (by simp only [Act.put, List.setIfInBounds_toArray, List.set_cons_succ, List.set_cons_zero]; rfl) ?_; go_big_quiet_on | refine quiet_conv qk1 rfl rfl rfl (by simp only [Act.put, List.setIfInBounds_toArray, List.set_cons_succ, List.set_cons_zero]; rfl) ?_; go_big_quiet_on | refine quiet_conv qL2k0 rfl rfl rfl (by simp only [Act.put, List.setIfInBounds_toArray, List.set_cons_succ, List.set_cons_zero]; rfl) ?_; go_big_quiet_on))
            refine wpQuiet_nil ?_
            refine wpMix2_seg 3 (InS qS) (by kernel_rfl) (by decide) (cl_base [2] rfl (by kernel_rfl)) ?_
            simp only [List.take_succ_cons, List.take_zero, List.drop_succ_cons, List.drop_zero]
            repeat (first | go_big_quiet_step (fail) | (go_big_quiet_want; first | refine quiet_load qk0 rfl rfl rfl (by simp only [Act.put, List.setIfInBounds_toArray, List.set_cons_succ, List.set_cons_zero]; rfl) ?_; go_big_quiet_on | refine quiet_conv qk1 rfl rfl rfl (by simp only [Act.put, List.setIfInBounds_toArray, List.set_cons_succ, List.set_cons_zero]; rfl) ?_; go_big_quiet_on | refine quiet_conv qL2k0 rfl rfl rfl (by simp only [Act.put, List.setIfInBounds_toArray, List.set_cons_succ, List.set_cons_zero]; rfl) ?_; go_big_quiet_on))
            refine wpQuiet_nil ?_
            refine wpMix2_nil ?_
            clear qk0 qk1 qn qH qL2k0 qL2n qL2H
            have E2 := EQ.out BS7.out.byte
            have KE := Lib.hid (KB.out.trans K7.out (T := None) (fun _ h => h) (fun _ _ h => h))
            clear EQ HSZ HSC PUT BS7 S7 HZr BD HR HK K7
            by_cases hq : comL D = zs
            · rw [decide_eq_true hq] at E2
              rw [if_pos hq] at GD
              rw [E2]
              go_wp2_with (first | (refine wpList_load_blk (b := wb.heap.size) (o := 0) (ds := D.cs) B7.out (fun j v hv => by rw [Nat.zero_add]; exact hv) rfl rfl rfl Try.underlying25 rfl (by rw [Com.cs_len DO.out]; exact com_size) ?_) | (refine wpList_store_blk (b := w.heap.size) (o := 0) (ds := D.cs) R7.out (by rw [Com.cs_len DO.out]; decide) (Com.cs_one _) rfl rfl rfl rfl (by rw [Com.cs_len DO.out]; exact com_size) ?_))
              intro w6 b6 k6
              rw [splice_all (by rw [Com.cs_len DO.out]; rfl)] at b6
              have B6 := Lib.hid b6
              have K6 := Lib.hid (KE.out.trans k6 (T := None) (fun _ h => h) (fun b hb e => absurd e (by omega)))
              clear b6 k6 R7 B7 KE E2
              go_wp2
              refine bodyPost_ret (cell_res rfl _ B6.out Try.underlying25 rfl (by rw [Com.cs_len DO.out]; exact com_size) rfl rfl) rfl ?_
              exact ⟨by rw [GD.out]; rfl, K6.out⟩
            · rw [decide_eq_false hq] at E2
              rw [if_neg hq] at GD
              rw [E2]
              go_wp2_with (refine wpList_store_blk (b := w.heap.size) (o := 0) (ds := com0.cs) R7.out (by decide) (Com.cs_one _) rfl rfl rfl (by rw [← com_zero]; rfl) com_size ?_)
              intro w6 b6 k6
              rw [splice_all rfl] at b6
              have B6 := Lib.hid b6
              have K6 := Lib.hid (KE.out.trans k6 (T := None) (fun _ h => h) (fun b hb e => absurd e (by omega)))
              clear b6 k6 R7 B7 KE E2
              go_wp2
              refine bodyPost_ret (cell_res rfl _ B6.out Try.underlying25 rfl com_size rfl rfl) rfl ?_
              exact ⟨by rw [GD.out]; rfl, K6.out⟩
      ·
        refine wpPs_cons ?_
        try simp only [List.take_succ_cons, List.take_zero, List.drop_succ_cons, List.drop_zero, Nat.reduceSub]
        refine wpMix_eff (by kernel_rfl) ?_
        go_wp2
        first | (refine Exists.elim (⟨_, rfl⟩ : ∃ x, wb.drew.alloc (.cells Try.zeroCells25 25) = x) fun wy hwy => ?_; rw [hwy]) | (refine Exists.elim (⟨_, rfl⟩ : ∃ x, (wb.alloc (.cells Try.zeroCells25 25)).drew = x) fun wy hwy => ?_; rw [hwy])
        have NB : Hid (Blk wy wb.heap.size com0.cs 25) := by rw [← hwy, com_zero]; first | exact Blk.new wb.drew com0.cs 25 | exact (Blk.new wb com0.cs 25).drew
        have KD : Hid (Keeps None wb wy) := by rw [← hwy]; first | exact KC.out.alloc _ | exact ((Keeps.refl None wb).alloc _).drew
        clear KC hwy
        have KC := KD
        clear KD
        refine MixK.on (InS.mk ((mH.out _).2 (((CB.out _ KC.out).1)))) ?_
        refine wpMix_nil ?_
        refine wpPs_nil ?_
        refine wpT_leaf (ps := [(0, 4), (10, 5), (16, 1)]) (by kernel_rfl) ?_
        refine wpPs_cons ?_
        try simp only [List.take_succ_cons, List.take_zero, List.drop_succ_cons, List.drop_zero, Nat.reduceSub]
        refine wpMix_seg 4 (by kernel_rfl) (by decide) ?_
        simp only [List.take_succ_cons, List.take_zero, List.drop_succ_cons, List.drop_zero, Nat.reduceSub]
        repeat (go_big_quiet_step (fail))
        refine wpQuiet_nil ?_
        refine wpMix_nil ?_
        refine wpPs_cons ?_
        try simp only [List.take_succ_cons, List.take_zero, List.drop_succ_cons, List.drop_zero, Nat.reduceSub]
        refine wpMix_seg 2 (by kernel_rfl) (by decide) ?_
        simp only [List.take_succ_cons, List.take_zero, List.drop_succ_cons, List.drop_zero, Nat.reduceSub]
        repeat (go_big_quiet_step (fail))
        refine wpQuiet_nil ?_
        refine wpMix_eff (by kernel_rfl) ?_
        go_wp2_with fail
        refine (V3.out _ (((CB.out _ KC.out).2.drop (by decide)).take (by decide))).mono ?_
        rintro e w' ⟨rfl, rfl⟩
        go_wp2
        refine MixK.on (InS.mk ((mH.out _).2 (((CB.out _ KC.out).1)))) ?_
        refine wpMix_seg 2 (by kernel_rfl) (by decide) ?_
        simp only [List.take_succ_cons, List.take_zero, List.drop_succ_cons, List.drop_zero, Nat.reduceSub]
        repeat (go_big_quiet_step (fail))
        refine wpQuiet_nil ?_
        refine wpMix_nil ?_
        refine wpPs_cons ?_
        try simp only [List.take_succ_cons, List.take_zero, List.drop_succ_cons, List.drop_zero, Nat.reduceSub]
        refine wpMix_eff (by kernel_rfl) ?_
        go_wp2_with (refine wpList_store_blk (b := wb.heap.size) (o := 0) (ds := C.cs) NB.out (by rw [CL.out]; decide) (Com.cs_one _) rfl rfl rfl (congrArg Value.agg AG.out) (by rw [CL.out]; exact com_size) ?_)
        intro w3 b3 k3
        rw [splice_all (by rw [CL.out]; rfl)] at b3
        have N3 := Lib.hid b3
        have K3 : Hid (Keeps None wb w3) := KC.out.trans k3 (fun _ h => h) (fun b hb e => absurd e (by omega))
        have R3 : Hid (Blk w3 w.heap.size com0.cs 25) := K3.out.blk RB.out (fun h => h)
        clear b3 k3 NB KC
        go_wp2
        refine MixK.on (InS.mk ((mH.out _).2 (((CB.out _ K3.out).1)))) ?_
        refine wpMix_nil ?_
        refine wpPs_nil ?_
        clear mk0 mn mH
        have SZ : wb.heap.size < w3.heap.size := N3.out.lt
        have RW : Hid (w.heap.size < wb.heap.size) := RB.out.lt
        clear CL AG RB KR
        go_wp2
        go_loopw [5] (fun iv wr => ∃ k : Nat, k ≤ 64 ∧ iv = .int .i64 (k : Int) ∧ Blk wr wb.heap.size (⟨(c0 : Int), part8 zs 8, part8 zs 16, L, fillTo (zs.drop 32) 64 k⟩ : Com).cs 25 ∧ Blk wr w.heap.size com0.cs 25 ∧ Keeps None wb wr) (fun iv _ => 64 - (intOf iv).toNat)
        case atStart => exact ⟨0, by decide, rfl, by (have h := N3.out; rw [← HCC.out] at h; exact h), R3.out, K3.out⟩
        case round =>
          obtain ⟨k, hk64, rfl, hB, hR, hK⟩ := hrel
          have HB := Lib.hid hB
          have HR := Lib.hid hR
          have HK := Lib.hid hK
          clear hB hR hK N3 R3 K3
          by_cases hlt : k < 64
          · obtain ⟨z, hz⟩ : ∃ z, zs.getD (32 + k) 0 = z := ⟨_, rfl⟩
            have zc := (CB.out _ HK.out).2.cellK (k := 32 + k) (by omega)
            rw [hz] at zc
            have oc := HB.out.cellD (4 + k) _ (Com.cs_me _ (fillTo_len HD.out hk64) k hlt)
            have fz := HB.out.frozen (4 + k)
            have B2 : Hid (∀ w', w' = wr.setCell ⟨wb.heap.size, 4 + k, none⟩ (.int .u8 z) → Blk w' wb.heap.size (⟨(c0 : Int), part8 zs 8, part8 zs 16, L, fillTo (zs.drop 32) 64 (k + 1)⟩ : Com).cs 25 ∧ Blk w' w.heap.size com0.cs 25 ∧ Keeps None wb w') := by
              rintro w' rfl
              refine ⟨?_, HR.out.setOther _ _ (Nat.ne_of_lt RW.out), HK.out.trans ((Keeps.refl (fun b => b = wb.heap.size) _).setCell _ _ (fun _ => rfl)) (fun _ h => h) (fun b hb e => absurd e (by omega))⟩
              have h := HB.out.set (4 + k) (.int .u8 z)
              rw [Com.cs_set, ← hz, ← getD_drop, fillTo_set HD.out hlt] at h
              rw [← hz, ← getD_drop]
              exact h
            clear HB HR HK hz
            go_wp2
            go_roundw
            case rel =>
              obtain ⟨r1, r2, r3⟩ := B2.out _ rfl
              exact ⟨k + 1, by omega, by go_num, r1, r2, r3⟩
            case measure => simp [intOf]; omega
          · obtain rfl : k = 64 := by omega
            rw [fillTo_all HD.out] at HB
            obtain ⟨D, hD⟩ : ∃ D : Com, comR zs L = D := ⟨_, rfl⟩
            have GD : Hid (getCom zs = if comL D = zs then (D, true) else (com0, false)) := by rw [← hD]; exact GC.out
            have DO : Hid D.ok := by rw [← hD]; exact COK.out
            have BD : Hid (Blk wr wb.heap.size D.cs 25) := by
              have h := HB.out
              rw [← HC0.out, show (⟨zs.getD 0 0, part8 zs 8, part8 zs 16, L, zs.drop 32⟩ : Com) = comR zs L from rfl, hD] at h
              exact h
            clear HB GC COK hD hlt
            have PUT := Lib.hid (fun w => rgputc_any D DO.out w)
            unfold Com.v at PUT
            have HZr := Lib.hid (CB.out _ HK.out).2
            obtain ⟨sz, hsz⟩ : ∃ x, strOf zs = x := ⟨_, rfl⟩
            obtain ⟨sc, hsc⟩ : ∃ x, strOf (comL D) = x := ⟨_, rfl⟩
            have EQ : Hid (Byt (comL D) → (sc.toList == sz.toList) = decide (comL D = zs)) := fun hb => by rw [← hsz, ← hsc]; exact strOf_beq hb HZr.out.byte
            have HSZ := Lib.hid hsz
            have HSC := Lib.hid hsc
            clear hsz hsc
            go_wp2
            obtain ⟨qS, qh⟩ : ∃ S : World → Prop, ∀ w', S w' ↔ (((Instr.loadAt 25 (.pointer (some ⟨wb.heap.size, 0, none⟩))).run Try.prog w' = .ok (.agg D.cs.toArray) w') ∧ ((convert 27 9 (.slice (some ⟨gb, off, none⟩) 96 cap)).run Try.prog w' = .ok (.string sz) w')) := ⟨_, fun _ => Iff.rfl⟩
            have qk0 : ∀ x : Memb qS, (Instr.loadAt 25 (.pointer (some ⟨wb.heap.size, 0, none⟩))).run Try.prog x.at_ = .ok (.agg D.cs.toArray) x.at_ := fun x => ((qh _).1 x.is).1
            have qk1 : ∀ x : Memb qS, (convert 27 9 (.slice (some ⟨gb, off, none⟩) 96 cap)).run Try.prog x.at_ = .ok (.string sz) x.at_ := fun x => ((qh _).1 x.is).2
            have qn : Nonempty (Memb qS) := ⟨⟨(wr).drew, (qh _).2 ⟨run_load_com BD.out.drew (Com.cs_len DO.out), HSZ.out ▸ run_str HZr.out.drew⟩⟩⟩
            have qH := Lib.hid qh
            clear qh
            refine wp_region_mix2 [1] (InS qS) (by kernel_rfl) (by kernel_rfl) (InS.mk ((qH.out _).2 ⟨run_load_com BD.out.drew (Com.cs_len DO.out), HSZ.out ▸ run_str HZr.out.drew⟩)) ?_
            refine wpMix2_seg 1 (InS qS) (by kernel_rfl) (by decide) (cl_base [] rfl (by kernel_rfl)) ?_
            simp only [List.take_succ_cons, List.take_zero, List.drop_succ_cons, List.drop_zero]
            repeat (first | go_big_quiet_step (fail) | (go_big_quiet_want; first | refine quiet_load qk0 rfl rfl rfl (by simp only [Act.put, List.setIfInBounds_toArray, List.set_cons_succ, List.set_cons_zero]; rfl) ?_; go_big_quiet_on | refine quiet_conv qk1 rfl rfl rfl (by simp only [Act.put, List.setIfInBounds_toArray, List.set_cons_succ, List.set_cons_zero]; rfl) ?_; go_big_quiet_on))
            refine wpQuiet_nil ?_
            refine wpMix2_eff (by kernel_rfl) ?_
            go_wp2_with fail
            refine (PUT.out _).mono ?_
            rintro e w7 ⟨v7, rfl, o7, k7⟩
            obtain ⟨A7, cap7, rfl, bs7, -⟩ := o7.shape
            have BS7 := Lib.hid bs7
            have B7 := Lib.hid (k7.blk BD.out.drew (fun h => h))
            have R7 := Lib.hid (k7.blk HR.out.drew (fun h => h))
            have S7 := Lib.hid (HZr.out.drew.keeps k7 (fun _ _ _ _ _ h => h))
            have K7 := Lib.hid (HK.out.drew.trans k7 (T := None) (fun _ h => h) (fun _ _ h => h))
            obtain ⟨cl, hcl⟩ : ∃ x, (comL D).length = x := ⟨_, rfl⟩
            rw [hcl] at BS7 ⊢
            clear o7 bs7 k7 hcl
            go_wp2
            obtain ⟨qL2S, qL2h⟩ : ∃ S : World → Prop, ∀ w', S w' ↔ (((convert 27 9 (.slice A7 cl cap7)).run Try.prog w' = .ok (.string sc) w')) := ⟨_, fun _ => Iff.rfl⟩
            have qL2k0 : ∀ x : Memb qL2S, (convert 27 9 (.slice A7 cl cap7)).run Try.prog x.at_ = .ok (.string sc) x.at_ := fun x => ((qL2h _).1 x.is)
            have qL2n : Nonempty (Memb qL2S) := ⟨⟨_, (qL2h _).2 (HSC.out ▸ run_str BS7.out)⟩⟩
            have qL2H := Lib.hid qL2h
            clear qL2h
            refine MixK2.late (D := InS qL2S) (x := 2) (by kernel_rfl) (cls_cons (InS.mk ((qL2H.out _).2 (HSC.out ▸ run_str BS7.out))) (cls_base (InS.mk ((qH.out _).2 (⟨run_load_com B7.out (Com.cs_len DO.out), HSZ.out ▸ run_str S7.out⟩))))) ?_
            refine wpMix2_seg 1 (InS qL2S) (by kernel_rfl) (by decide) (cl_one rfl) ?_
            simp only [List.take_succ_cons, List.take_zero, List.drop_succ_cons, List.drop_zero]
            repeat (first | go_big_quiet_step (fail) | (go_big_quiet_want; first | refine quiet_load qk0 rfl rfl rfl (by simp only [Act.put, List.setIfInBounds_toArray, List.set_cons_succ, List.set_cons_zero]; rfl) ?_; go_big_quiet_on | refine quiet_conv qk1 rfl rfl rfl (by simp only [Act.put, List.setIfInBounds_toArray, List.set_cons_succ, List.set_cons_zero]; rfl) ?_; go_big_quiet_on | refine quiet_conv qL2k0 rfl rfl rfl (by simp only [Act.put, List.setIfInBounds_toArray, List.set_cons_succ, List.set_cons_zero]; rfl) ?_; go_big_quiet_on))
            refine wpQuiet_nil ?_
            refine wpMix2_seg 3 (InS qS) (by kernel_rfl) (by decide) (cl_base [2] rfl (by kernel_rfl)) ?_
            simp only [List.take_succ_cons, List.take_zero, List.drop_succ_cons, List.drop_zero]
            repeat (first | go_big_quiet_step (fail) | (go_big_quiet_want; first | refine quiet_load qk0 rfl rfl rfl (by simp only [Act.put, List.setIfInBounds_toArray, List.set_cons_succ, List.set_cons_zero]; rfl) ?_; go_big_quiet_on | refine quiet_conv qk1 rfl rfl rfl (by simp only [Act.put, List.setIfInBounds_toArray, List.set_cons_succ, List.set_cons_zero]; rfl) ?_; go_big_quiet_on | refine quiet_conv qL2k0 rfl rfl rfl (by simp only [Act.put, List.setIfInBounds_toArray, List.set_cons_succ, List.set_cons_zero]; rfl) ?_; go_big_quiet_on))
            refine wpQuiet_nil ?_
            refine wpMix2_nil ?_
            clear qk0 qk1 qn qH qL2k0 qL2n qL2H
            have E2 := EQ.out BS7.out.byte
            have KE := Lib.hid (KB.out.trans K7.out (T := None) (fun _ h => h) (fun _ _ h => h))
            clear EQ HSZ HSC PUT BS7 S7 HZr BD HR HK K7
            by_cases hq : comL D = zs
            · rw [decide_eq_true hq] at E2
              rw [if_pos hq] at GD
              rw [E2]
              go_wp2_with (first | (refine wpList_load_blk (b := wb.heap.size) (o := 0) (ds := D.cs) B7.out (fun j v hv => by rw [Nat.zero_add]; exact hv) rfl rfl rfl Try.underlying25 rfl (by rw [Com.cs_len DO.out]; exact com_size) ?_) | (refine wpList_store_blk (b := w.heap.size) (o := 0) (ds := D.cs) R7.out (by rw [Com.cs_len DO.out]; decide) (Com.cs_one _) rfl rfl rfl rfl (by rw [Com.cs_len DO.out]; exact com_size) ?_))
              intro w6 b6 k6
              rw [splice_all (by rw [Com.cs_len DO.out]; rfl)] at b6
              have B6 := Lib.hid b6
              have K6 := Lib.hid (KE.out.trans k6 (T := None) (fun _ h => h) (fun b hb e => absurd e (by omega)))
              clear b6 k6 R7 B7 KE E2
              go_wp2
              refine bodyPost_ret (cell_res rfl _ B6.out Try.underlying25 rfl (by rw [Com.cs_len DO.out]; exact com_size) rfl rfl) rfl ?_
              exact ⟨by rw [GD.out]; rfl, K6.out⟩
            · rw [decide_eq_false hq] at E2
              rw [if_neg hq] at GD
              rw [E2]
              go_wp2_with (refine wpList_store_blk (b := w.heap.size) (o := 0) (ds := com0.cs) R7.out (by decide) (Com.cs_one _) rfl rfl rfl (by rw [← com_zero]; rfl) com_size ?_)
              intro w6 b6 k6
              rw [splice_all rfl] at b6
              have B6 := Lib.hid b6
              have K6 := Lib.hid (KE.out.trans k6 (T := None) (fun _ h => h) (fun b hb e => absurd e (by omega)))
              clear b6 k6 R7 B7 KE E2
              go_wp2
              refine bodyPost_ret (cell_res rfl _ B6.out Try.underlying25 rfl com_size rfl rfl) rfl ?_
              exact ⟨by rw [GD.out]; rfl, K6.out⟩
    ·
      refine wpPs_cons ?_
      try simp only [List.take_succ_cons, List.take_zero, List.drop_succ_cons, List.drop_zero, Nat.reduceSub]
      refine wpMix_eff (by kernel_rfl) ?_
      go_wp2
      first | (refine Exists.elim (⟨_, rfl⟩ : ∃ x, wb.drew.alloc (.cells Try.zeroCells25 25) = x) fun wy hwy => ?_; rw [hwy]) | (refine Exists.elim (⟨_, rfl⟩ : ∃ x, (wb.alloc (.cells Try.zeroCells25 25)).drew = x) fun wy hwy => ?_; rw [hwy])
      have NB : Hid (Blk wy wb.heap.size com0.cs 25) := by rw [← hwy, com_zero]; first | exact Blk.new wb.drew com0.cs 25 | exact (Blk.new wb com0.cs 25).drew
      have KD : Hid (Keeps None wb wy) := by rw [← hwy]; first | exact KC.out.alloc _ | exact ((Keeps.refl None wb).alloc _).drew
      clear KC hwy
      have KC := KD
      clear KD
      refine MixK.on (InS.mk ((mH.out _).2 (((CB.out _ KC.out).1)))) ?_
      refine wpMix_nil ?_
      refine wpPs_nil ?_
      refine wpT_node1 (us := [(0, 4), (7, 8), (16, 1)]) [(7, 3)] [(0, 4), (10, 5), (16, 1)] (by kernel_rfl) ?_
      ·
        refine wpPs_cons ?_
        try simp only [List.take_succ_cons, List.take_zero, List.drop_succ_cons, List.drop_zero, Nat.reduceSub]
        refine wpMix_seg 2 (by kernel_rfl) (by decide) ?_
        simp only [List.take_succ_cons, List.take_zero, List.drop_succ_cons, List.drop_zero, Nat.reduceSub]
        repeat (go_big_quiet_step (fail))
        refine wpQuiet_nil ?_
        refine wpMix_eff (by kernel_rfl) ?_
        go_wp2_with fail
        refine (V2.out _ (((CB.out _ KC.out).2.drop (by decide)).take (by decide))).mono ?_
        rintro e w' ⟨rfl, rfl⟩
        go_wp2
        refine MixK.on (InS.mk ((mH.out _).2 (((CB.out _ KC.out).1)))) ?_
        refine wpMix_nil ?_
        refine wpPs_nil ?_
        refine wpT_leaf (ps := [(0, 4), (10, 5), (16, 1)]) (by kernel_rfl) ?_
        refine wpPs_cons ?_
        try simp only [List.take_succ_cons, List.take_zero, List.drop_succ_cons, List.drop_zero, Nat.reduceSub]
        refine wpMix_seg 4 (by kernel_rfl) (by decide) ?_
        simp only [List.take_succ_cons, List.take_zero, List.drop_succ_cons, List.drop_zero, Nat.reduceSub]
        repeat (go_big_quiet_step (fail))
        refine wpQuiet_nil ?_
        refine wpMix_nil ?_
        refine wpPs_cons ?_
        try simp only [List.take_succ_cons, List.take_zero, List.drop_succ_cons, List.drop_zero, Nat.reduceSub]
        refine wpMix_seg 2 (by kernel_rfl) (by decide) ?_
        simp only [List.take_succ_cons, List.take_zero, List.drop_succ_cons, List.drop_zero, Nat.reduceSub]
        repeat (go_big_quiet_step (fail))
        refine wpQuiet_nil ?_
        refine wpMix_eff (by kernel_rfl) ?_
        go_wp2_with fail
        refine (V3.out _ (((CB.out _ KC.out).2.drop (by decide)).take (by decide))).mono ?_
        rintro e w' ⟨rfl, rfl⟩
        go_wp2
        refine MixK.on (InS.mk ((mH.out _).2 (((CB.out _ KC.out).1)))) ?_
        refine wpMix_seg 2 (by kernel_rfl) (by decide) ?_
        simp only [List.take_succ_cons, List.take_zero, List.drop_succ_cons, List.drop_zero, Nat.reduceSub]
        repeat (go_big_quiet_step (fail))
        refine wpQuiet_nil ?_
        refine wpMix_nil ?_
        refine wpPs_cons ?_
        try simp only [List.take_succ_cons, List.take_zero, List.drop_succ_cons, List.drop_zero, Nat.reduceSub]
        refine wpMix_eff (by kernel_rfl) ?_
        go_wp2_with (refine wpList_store_blk (b := wb.heap.size) (o := 0) (ds := C.cs) NB.out (by rw [CL.out]; decide) (Com.cs_one _) rfl rfl rfl (congrArg Value.agg AG.out) (by rw [CL.out]; exact com_size) ?_)
        intro w3 b3 k3
        rw [splice_all (by rw [CL.out]; rfl)] at b3
        have N3 := Lib.hid b3
        have K3 : Hid (Keeps None wb w3) := KC.out.trans k3 (fun _ h => h) (fun b hb e => absurd e (by omega))
        have R3 : Hid (Blk w3 w.heap.size com0.cs 25) := K3.out.blk RB.out (fun h => h)
        clear b3 k3 NB KC
        go_wp2
        refine MixK.on (InS.mk ((mH.out _).2 (((CB.out _ K3.out).1)))) ?_
        refine wpMix_nil ?_
        refine wpPs_nil ?_
        clear mk0 mn mH
        have SZ : wb.heap.size < w3.heap.size := N3.out.lt
        have RW : Hid (w.heap.size < wb.heap.size) := RB.out.lt
        clear CL AG RB KR
        go_wp2
        go_loopw [5] (fun iv wr => ∃ k : Nat, k ≤ 64 ∧ iv = .int .i64 (k : Int) ∧ Blk wr wb.heap.size (⟨(c0 : Int), part8 zs 8, part8 zs 16, L, fillTo (zs.drop 32) 64 k⟩ : Com).cs 25 ∧ Blk wr w.heap.size com0.cs 25 ∧ Keeps None wb wr) (fun iv _ => 64 - (intOf iv).toNat)
        case atStart => exact ⟨0, by decide, rfl, by (have h := N3.out; rw [← HCC.out] at h; exact h), R3.out, K3.out⟩
        case round =>
          obtain ⟨k, hk64, rfl, hB, hR, hK⟩ := hrel
          have HB := Lib.hid hB
          have HR := Lib.hid hR
          have HK := Lib.hid hK
          clear hB hR hK N3 R3 K3
          by_cases hlt : k < 64
          · obtain ⟨z, hz⟩ : ∃ z, zs.getD (32 + k) 0 = z := ⟨_, rfl⟩
            have zc := (CB.out _ HK.out).2.cellK (k := 32 + k) (by omega)
            rw [hz] at zc
            have oc := HB.out.cellD (4 + k) _ (Com.cs_me _ (fillTo_len HD.out hk64) k hlt)
            have fz := HB.out.frozen (4 + k)
            have B2 : Hid (∀ w', w' = wr.setCell ⟨wb.heap.size, 4 + k, none⟩ (.int .u8 z) → Blk w' wb.heap.size (⟨(c0 : Int), part8 zs 8, part8 zs 16, L, fillTo (zs.drop 32) 64 (k + 1)⟩ : Com).cs 25 ∧ Blk w' w.heap.size com0.cs 25 ∧ Keeps None wb w') := by
              rintro w' rfl
              refine ⟨?_, HR.out.setOther _ _ (Nat.ne_of_lt RW.out), HK.out.trans ((Keeps.refl (fun b => b = wb.heap.size) _).setCell _ _ (fun _ => rfl)) (fun _ h => h) (fun b hb e => absurd e (by omega))⟩
              have h := HB.out.set (4 + k) (.int .u8 z)
              rw [Com.cs_set, ← hz, ← getD_drop, fillTo_set HD.out hlt] at h
              rw [← hz, ← getD_drop]
              exact h
            clear HB HR HK hz
            go_wp2
            go_roundw
            case rel =>
              obtain ⟨r1, r2, r3⟩ := B2.out _ rfl
              exact ⟨k + 1, by omega, by go_num, r1, r2, r3⟩
            case measure => simp [intOf]; omega
          · obtain rfl : k = 64 := by omega
            rw [fillTo_all HD.out] at HB
            obtain ⟨D, hD⟩ : ∃ D : Com, comR zs L = D := ⟨_, rfl⟩
            have GD : Hid (getCom zs = if comL D = zs then (D, true) else (com0, false)) := by rw [← hD]; exact GC.out
            have DO : Hid D.ok := by rw [← hD]; exact COK.out
            have BD : Hid (Blk wr wb.heap.size D.cs 25) := by
              have h := HB.out
              rw [← HC0.out, show (⟨zs.getD 0 0, part8 zs 8, part8 zs 16, L, zs.drop 32⟩ : Com) = comR zs L from rfl, hD] at h
              exact h
            clear HB GC COK hD hlt
            have PUT := Lib.hid (fun w => rgputc_any D DO.out w)
            unfold Com.v at PUT
            have HZr := Lib.hid (CB.out _ HK.out).2
            obtain ⟨sz, hsz⟩ : ∃ x, strOf zs = x := ⟨_, rfl⟩
            obtain ⟨sc, hsc⟩ : ∃ x, strOf (comL D) = x := ⟨_, rfl⟩
            have EQ : Hid (Byt (comL D) → (sc.toList == sz.toList) = decide (comL D = zs)) := fun hb => by rw [← hsz, ← hsc]; exact strOf_beq hb HZr.out.byte
            have HSZ := Lib.hid hsz
            have HSC := Lib.hid hsc
            clear hsz hsc
            go_wp2
            obtain ⟨qS, qh⟩ : ∃ S : World → Prop, ∀ w', S w' ↔ (((Instr.loadAt 25 (.pointer (some ⟨wb.heap.size, 0, none⟩))).run Try.prog w' = .ok (.agg D.cs.toArray) w') ∧ ((convert 27 9 (.slice (some ⟨gb, off, none⟩) 96 cap)).run Try.prog w' = .ok (.string sz) w')) := ⟨_, fun _ => Iff.rfl⟩
            have qk0 : ∀ x : Memb qS, (Instr.loadAt 25 (.pointer (some ⟨wb.heap.size, 0, none⟩))).run Try.prog x.at_ = .ok (.agg D.cs.toArray) x.at_ := fun x => ((qh _).1 x.is).1
            have qk1 : ∀ x : Memb qS, (convert 27 9 (.slice (some ⟨gb, off, none⟩) 96 cap)).run Try.prog x.at_ = .ok (.string sz) x.at_ := fun x => ((qh _).1 x.is).2
            have qn : Nonempty (Memb qS) := ⟨⟨(wr).drew, (qh _).2 ⟨run_load_com BD.out.drew (Com.cs_len DO.out), HSZ.out ▸ run_str HZr.out.drew⟩⟩⟩
            have qH := Lib.hid qh
            clear qh
            refine wp_region_mix2 [1] (InS qS) (by kernel_rfl) (by kernel_rfl) (InS.mk ((qH.out _).2 ⟨run_load_com BD.out.drew (Com.cs_len DO.out), HSZ.out ▸ run_str HZr.out.drew⟩)) ?_
            refine wpMix2_seg 1 (InS qS) (by kernel_rfl) (by decide) (cl_base [] rfl (by kernel_rfl)) ?_
            simp only [List.take_succ_cons, List.take_zero, List.drop_succ_cons, List.drop_zero]
            repeat (first | go_big_quiet_step (fail) | (go_big_quiet_want; first | refine quiet_load qk0 rfl rfl rfl (by simp only [Act.put, List.setIfInBounds_toArray, List.set_cons_succ, List.set_cons_zero]; rfl) ?_; go_big_quiet_on | refine quiet_conv qk1 rfl rfl rfl (by simp only [Act.put, List.setIfInBounds_toArray, List.set_cons_succ, List.set_cons_zero]; rfl) ?_; go_big_quiet_on))
            refine wpQuiet_nil ?_
            refine wpMix2_eff (by kernel_rfl) ?_
            go_wp2_with fail
            refine (PUT.out _).mono ?_
            rintro e w7 ⟨v7, rfl, o7, k7⟩
            obtain ⟨A7, cap7, rfl, bs7, -⟩ := o7.shape
            have BS7 := Lib.hid bs7
            have B7 := Lib.hid (k7.blk BD.out.drew (fun h => h))
            have R7 := Lib.hid (k7.blk HR.out.drew (fun h => h))
            have S7 := Lib.hid (HZr.out.drew.keeps k7 (fun _ _ _ _ _ h => h))
            have K7 := Lib.hid (HK.out.drew.trans k7 (T := None) (fun _ h => h) (fun _ _ h => h))
            obtain ⟨cl, hcl⟩ : ∃ x, (comL D).length = x := ⟨_, rfl⟩
            rw [hcl] at BS7 ⊢
            clear o7 bs7 k7 hcl
            go_wp2
            obtain ⟨qL2S, qL2h⟩ : ∃ S : World → Prop, ∀ w', S w' ↔ (((convert 27 9 (.slice A7 cl cap7)).run Try.prog w' = .ok (.string sc) w')) := ⟨_, fun _ => Iff.rfl⟩
            have qL2k0 : ∀ x : Memb qL2S, (convert 27 9 (.slice A7 cl cap7)).run Try.prog x.at_ = .ok (.string sc) x.at_ := fun x => ((qL2h _).1 x.is)
            have qL2n : Nonempty (Memb qL2S) := ⟨⟨_, (qL2h _).2 (HSC.out ▸ run_str BS7.out)⟩⟩
            have qL2H := Lib.hid qL2h
            clear qL2h
            refine MixK2.late (D := InS qL2S) (x := 2) (by kernel_rfl) (cls_cons (InS.mk ((qL2H.out _).2 (HSC.out ▸ run_str BS7.out))) (cls_base (InS.mk ((qH.out _).2 (⟨run_load_com B7.out (Com.cs_len DO.out), HSZ.out ▸ run_str S7.out⟩))))) ?_
            refine wpMix2_seg 1 (InS qL2S) (by kernel_rfl) (by decide) (cl_one rfl) ?_
            simp only [List.take_succ_cons, List.take_zero, List.drop_succ_cons, List.drop_zero]
            repeat (first | go_big_quiet_step (fail) | (go_big_quiet_want; first | refine quiet_load qk0 rfl rfl rfl (by simp only [Act.put, List.setIfInBounds_toArray, List.set_cons_succ, List.set_cons_zero]; rfl) ?_; go_big_quiet_on | refine quiet_conv qk1 rfl rfl rfl (by simp only [Act.put, List.setIfInBounds_toArray, List.set_cons_succ, List.set_cons_zero]; rfl) ?_; go_big_quiet_on | refine quiet_conv qL2k0 rfl rfl rfl (by simp only [Act.put, List.setIfInBounds_toArray, List.set_cons_succ, List.set_cons_zero]; rfl) ?_; go_big_quiet_on))
            refine wpQuiet_nil ?_
            refine wpMix2_seg 3 (InS qS) (by kernel_rfl) (by decide) (cl_base [2] rfl (by kernel_rfl)) ?_
            simp only [List.take_succ_cons, List.take_zero, List.drop_succ_cons, List.drop_zero]
            repeat (first | go_big_quiet_step (fail) | (go_big_quiet_want; first | refine quiet_load qk0 rfl rfl rfl (by simp only [Act.put, List.setIfInBounds_toArray, List.set_cons_succ, List.set_cons_zero]; rfl) ?_; go_big_quiet_on | refine quiet_conv qk1 rfl rfl rfl (by simp only [Act.put, List.setIfInBounds_toArray, List.set_cons_succ, List.set_cons_zero]; rfl) ?_; go_big_quiet_on | refine quiet_conv qL2k0 rfl rfl rfl (by simp only [Act.put, List.setIfInBounds_toArray, List.set_cons_succ, List.set_cons_zero]; rfl) ?_; go_big_quiet_on))
            refine wpQuiet_nil ?_
            refine wpMix2_nil ?_
            clear qk0 qk1 qn qH qL2k0 qL2n qL2H
            have E2 := EQ.out BS7.out.byte
            have KE := Lib.hid (KB.out.trans K7.out (T := None) (fun _ h => h) (fun _ _ h => h))
            clear EQ HSZ HSC PUT BS7 S7 HZr BD HR HK K7
            by_cases hq : comL D = zs
            · rw [decide_eq_true hq] at E2
              rw [if_pos hq] at GD
              rw [E2]
              go_wp2_with (first | (refine wpList_load_blk (b := wb.heap.size) (o := 0) (ds := D.cs) B7.out (fun j v hv => by rw [Nat.zero_add]; exact hv) rfl rfl rfl Try.underlying25 rfl (by rw [Com.cs_len DO.out]; exact com_size) ?_) | (refine wpList_store_blk (b := w.heap.size) (o := 0) (ds := D.cs) R7.out (by rw [Com.cs_len DO.out]; decide) (Com.cs_one _) rfl rfl rfl rfl (by rw [Com.cs_len DO.out]; exact com_size) ?_))
              intro w6 b6 k6
              rw [splice_all (by rw [Com.cs_len DO.out]; rfl)] at b6
              have B6 := Lib.hid b6
              have K6 := Lib.hid (KE.out.trans k6 (T := None) (fun _ h => h) (fun b hb e => absurd e (by omega)))
              clear b6 k6 R7 B7 KE E2
              go_wp2
              refine bodyPost_ret (cell_res rfl _ B6.out Try.underlying25 rfl (by rw [Com.cs_len DO.out]; exact com_size) rfl rfl) rfl ?_
              exact ⟨by rw [GD.out]; rfl, K6.out⟩
            · rw [decide_eq_false hq] at E2
              rw [if_neg hq] at GD
              rw [E2]
              go_wp2_with (refine wpList_store_blk (b := w.heap.size) (o := 0) (ds := com0.cs) R7.out (by decide) (Com.cs_one _) rfl rfl rfl (by rw [← com_zero]; rfl) com_size ?_)
              intro w6 b6 k6
              rw [splice_all rfl] at b6
              have B6 := Lib.hid b6
              have K6 := Lib.hid (KE.out.trans k6 (T := None) (fun _ h => h) (fun b hb e => absurd e (by omega)))
              clear b6 k6 R7 B7 KE E2
              go_wp2
              refine bodyPost_ret (cell_res rfl _ B6.out Try.underlying25 rfl com_size rfl rfl) rfl ?_
              exact ⟨by rw [GD.out]; rfl, K6.out⟩
  ·
    refine wpPs_cons ?_
    try simp only [List.take_succ_cons, List.take_zero, List.drop_succ_cons, List.drop_zero, Nat.reduceSub]
    refine wpMix_eff (by kernel_rfl) ?_
    go_wp2
    first | (refine Exists.elim (⟨_, rfl⟩ : ∃ x, wb.drew.alloc (.cells Try.zeroCells25 25) = x) fun wy hwy => ?_; rw [hwy]) | (refine Exists.elim (⟨_, rfl⟩ : ∃ x, (wb.alloc (.cells Try.zeroCells25 25)).drew = x) fun wy hwy => ?_; rw [hwy])
    have NB : Hid (Blk wy wb.heap.size com0.cs 25) := by rw [← hwy, com_zero]; first | exact Blk.new wb.drew com0.cs 25 | exact (Blk.new wb com0.cs 25).drew
    have KD : Hid (Keeps None wb wy) := by rw [← hwy]; first | exact KC.out.alloc _ | exact ((Keeps.refl None wb).alloc _).drew
    clear KC hwy
    have KC := KD
    clear KD
    refine MixK.on (InS.mk ((mH.out _).2 (((CB.out _ KC.out).1)))) ?_
    refine wpMix_nil ?_
    refine wpPs_nil ?_
    refine wpT_node1 (us := [(0, 15), (16, 1)]) [(4, 3)] [(0, 4), (7, 8), (16, 1)] (by kernel_rfl) ?_
    ·
      refine wpPs_cons ?_
      try simp only [List.take_succ_cons, List.take_zero, List.drop_succ_cons, List.drop_zero, Nat.reduceSub]
      refine wpMix_seg 2 (by kernel_rfl) (by decide) ?_
      simp only [List.take_succ_cons, List.take_zero, List.drop_succ_cons, List.drop_zero, Nat.reduceSub]
      repeat (go_big_quiet_step (fail))
      refine wpQuiet_nil ?_
      refine wpMix_eff (by kernel_rfl) ?_
      go_wp2_with fail
      refine (V1.out _ (((CB.out _ KC.out).2.drop (by decide)).take (by decide))).mono ?_
      rintro e w' ⟨rfl, rfl⟩
      go_wp2
      refine MixK.on (InS.mk ((mH.out _).2 (((CB.out _ KC.out).1)))) ?_
      refine wpMix_nil ?_
      refine wpPs_nil ?_
      refine wpT_node1 (us := [(0, 4), (7, 8), (16, 1)]) [(7, 3)] [(0, 4), (10, 5), (16, 1)] (by kernel_rfl) ?_
      ·
        refine wpPs_cons ?_
        try simp only [List.take_succ_cons, List.take_zero, List.drop_succ_cons, List.drop_zero, Nat.reduceSub]
        refine wpMix_seg 2 (by kernel_rfl) (by decide) ?_
        simp only [List.take_succ_cons, List.take_zero, List.drop_succ_cons, List.drop_zero, Nat.reduceSub]
        repeat (go_big_quiet_step (fail))
        refine wpQuiet_nil ?_
        refine wpMix_eff (by kernel_rfl) ?_
        go_wp2_with fail
        refine (V2.out _ (((CB.out _ KC.out).2.drop (by decide)).take (by decide))).mono ?_
        rintro e w' ⟨rfl, rfl⟩
        go_wp2
        refine MixK.on (InS.mk ((mH.out _).2 (((CB.out _ KC.out).1)))) ?_
        refine wpMix_nil ?_
        refine wpPs_nil ?_
        refine wpT_leaf (ps := [(0, 4), (10, 5), (16, 1)]) (by kernel_rfl) ?_
        refine wpPs_cons ?_
        try simp only [List.take_succ_cons, List.take_zero, List.drop_succ_cons, List.drop_zero, Nat.reduceSub]
        refine wpMix_seg 4 (by kernel_rfl) (by decide) ?_
        simp only [List.take_succ_cons, List.take_zero, List.drop_succ_cons, List.drop_zero, Nat.reduceSub]
        repeat (go_big_quiet_step (fail))
        refine wpQuiet_nil ?_
        refine wpMix_nil ?_
        refine wpPs_cons ?_
        try simp only [List.take_succ_cons, List.take_zero, List.drop_succ_cons, List.drop_zero, Nat.reduceSub]
        refine wpMix_seg 2 (by kernel_rfl) (by decide) ?_
        simp only [List.take_succ_cons, List.take_zero, List.drop_succ_cons, List.drop_zero, Nat.reduceSub]
        repeat (go_big_quiet_step (fail))
        refine wpQuiet_nil ?_
        refine wpMix_eff (by kernel_rfl) ?_
        go_wp2_with fail
        refine (V3.out _ (((CB.out _ KC.out).2.drop (by decide)).take (by decide))).mono ?_
        rintro e w' ⟨rfl, rfl⟩
        go_wp2
        refine MixK.on (InS.mk ((mH.out _).2 (((CB.out _ KC.out).1)))) ?_
        refine wpMix_seg 2 (by kernel_rfl) (by decide) ?_
        simp only [List.take_succ_cons, List.take_zero, List.drop_succ_cons, List.drop_zero, Nat.reduceSub]
        repeat (go_big_quiet_step (fail))
        refine wpQuiet_nil ?_
        refine wpMix_nil ?_
        refine wpPs_cons ?_
        try simp only [List.take_succ_cons, List.take_zero, List.drop_succ_cons, List.drop_zero, Nat.reduceSub]
        refine wpMix_eff (by kernel_rfl) ?_
        go_wp2_with (refine wpList_store_blk (b := wb.heap.size) (o := 0) (ds := C.cs) NB.out (by rw [CL.out]; decide) (Com.cs_one _) rfl rfl rfl (congrArg Value.agg AG.out) (by rw [CL.out]; exact com_size) ?_)
        intro w3 b3 k3
        rw [splice_all (by rw [CL.out]; rfl)] at b3
        have N3 := Lib.hid b3
        have K3 : Hid (Keeps None wb w3) := KC.out.trans k3 (fun _ h => h) (fun b hb e => absurd e (by omega))
        have R3 : Hid (Blk w3 w.heap.size com0.cs 25) := K3.out.blk RB.out (fun h => h)
        clear b3 k3 NB KC
        go_wp2
        refine MixK.on (InS.mk ((mH.out _).2 (((CB.out _ K3.out).1)))) ?_
        refine wpMix_nil ?_
        refine wpPs_nil ?_
        clear mk0 mn mH
        have SZ : wb.heap.size < w3.heap.size := N3.out.lt
        have RW : Hid (w.heap.size < wb.heap.size) := RB.out.lt
        clear CL AG RB KR
        go_wp2
        go_loopw [5] (fun iv wr => ∃ k : Nat, k ≤ 64 ∧ iv = .int .i64 (k : Int) ∧ Blk wr wb.heap.size (⟨(c0 : Int), part8 zs 8, part8 zs 16, L, fillTo (zs.drop 32) 64 k⟩ : Com).cs 25 ∧ Blk wr w.heap.size com0.cs 25 ∧ Keeps None wb wr) (fun iv _ => 64 - (intOf iv).toNat)
        case atStart => exact ⟨0, by decide, rfl, by (have h := N3.out; rw [← HCC.out] at h; exact h), R3.out, K3.out⟩
        case round =>
          obtain ⟨k, hk64, rfl, hB, hR, hK⟩ := hrel
          have HB := Lib.hid hB
          have HR := Lib.hid hR
          have HK := Lib.hid hK
          clear hB hR hK N3 R3 K3
          by_cases hlt : k < 64
          · obtain ⟨z, hz⟩ : ∃ z, zs.getD (32 + k) 0 = z := ⟨_, rfl⟩
            have zc := (CB.out _ HK.out).2.cellK (k := 32 + k) (by omega)
            rw [hz] at zc
            have oc := HB.out.cellD (4 + k) _ (Com.cs_me _ (fillTo_len HD.out hk64) k hlt)
            have fz := HB.out.frozen (4 + k)
            have B2 : Hid (∀ w', w' = wr.setCell ⟨wb.heap.size, 4 + k, none⟩ (.int .u8 z) → Blk w' wb.heap.size (⟨(c0 : Int), part8 zs 8, part8 zs 16, L, fillTo (zs.drop 32) 64 (k + 1)⟩ : Com).cs 25 ∧ Blk w' w.heap.size com0.cs 25 ∧ Keeps None wb w') := by
              rintro w' rfl
              refine ⟨?_, HR.out.setOther _ _ (Nat.ne_of_lt RW.out), HK.out.trans ((Keeps.refl (fun b => b = wb.heap.size) _).setCell _ _ (fun _ => rfl)) (fun _ h => h) (fun b hb e => absurd e (by omega))⟩
              have h := HB.out.set (4 + k) (.int .u8 z)
              rw [Com.cs_set, ← hz, ← getD_drop, fillTo_set HD.out hlt] at h
              rw [← hz, ← getD_drop]
              exact h
            clear HB HR HK hz
            go_wp2
            go_roundw
            case rel =>
              obtain ⟨r1, r2, r3⟩ := B2.out _ rfl
              exact ⟨k + 1, by omega, by go_num, r1, r2, r3⟩
            case measure => simp [intOf]; omega
          · obtain rfl : k = 64 := by omega
            rw [fillTo_all HD.out] at HB
            obtain ⟨D, hD⟩ : ∃ D : Com, comR zs L = D := ⟨_, rfl⟩
            have GD : Hid (getCom zs = if comL D = zs then (D, true) else (com0, false)) := by rw [← hD]; exact GC.out
            have DO : Hid D.ok := by rw [← hD]; exact COK.out
            have BD : Hid (Blk wr wb.heap.size D.cs 25) := by
              have h := HB.out
              rw [← HC0.out, show (⟨zs.getD 0 0, part8 zs 8, part8 zs 16, L, zs.drop 32⟩ : Com) = comR zs L from rfl, hD] at h
              exact h
            clear HB GC COK hD hlt
            have PUT := Lib.hid (fun w => rgputc_any D DO.out w)
            unfold Com.v at PUT
            have HZr := Lib.hid (CB.out _ HK.out).2
            obtain ⟨sz, hsz⟩ : ∃ x, strOf zs = x := ⟨_, rfl⟩
            obtain ⟨sc, hsc⟩ : ∃ x, strOf (comL D) = x := ⟨_, rfl⟩
            have EQ : Hid (Byt (comL D) → (sc.toList == sz.toList) = decide (comL D = zs)) := fun hb => by rw [← hsz, ← hsc]; exact strOf_beq hb HZr.out.byte
            have HSZ := Lib.hid hsz
            have HSC := Lib.hid hsc
            clear hsz hsc
            go_wp2
            obtain ⟨qS, qh⟩ : ∃ S : World → Prop, ∀ w', S w' ↔ (((Instr.loadAt 25 (.pointer (some ⟨wb.heap.size, 0, none⟩))).run Try.prog w' = .ok (.agg D.cs.toArray) w') ∧ ((convert 27 9 (.slice (some ⟨gb, off, none⟩) 96 cap)).run Try.prog w' = .ok (.string sz) w')) := ⟨_, fun _ => Iff.rfl⟩
            have qk0 : ∀ x : Memb qS, (Instr.loadAt 25 (.pointer (some ⟨wb.heap.size, 0, none⟩))).run Try.prog x.at_ = .ok (.agg D.cs.toArray) x.at_ := fun x => ((qh _).1 x.is).1
            have qk1 : ∀ x : Memb qS, (convert 27 9 (.slice (some ⟨gb, off, none⟩) 96 cap)).run Try.prog x.at_ = .ok (.string sz) x.at_ := fun x => ((qh _).1 x.is).2
            have qn : Nonempty (Memb qS) := ⟨⟨(wr).drew, (qh _).2 ⟨run_load_com BD.out.drew (Com.cs_len DO.out), HSZ.out ▸ run_str HZr.out.drew⟩⟩⟩
            have qH := Lib.hid qh
            clear qh
            refine wp_region_mix2 [1] (InS qS) (by kernel_rfl) (by kernel_rfl) (InS.mk ((qH.out _).2 ⟨run_load_com BD.out.drew (Com.cs_len DO.out), HSZ.out ▸ run_str HZr.out.drew⟩)) ?_
            refine wpMix2_seg 1 (InS qS) (by kernel_rfl) (by decide) (cl_base [] rfl (by kernel_rfl)) ?_
            simp only [List.take_succ_cons, List.take_zero, List.drop_succ_cons, List.drop_zero]
            repeat (first | go_big_quiet_step (fail) | (go_big_quiet_want; first | refine quiet_load qk0 rfl rfl rfl (by simp only [Act.put, List.setIfInBounds_toArray, List.set_cons_succ, List.set_cons_zero]; rfl) ?_; go_big_quiet_on | refine quiet_conv qk1 rfl rfl rfl (by simp only [Act.put, List.setIfInBounds_toArray, List.set_cons_succ, List.set_cons_zero]; rfl) ?_; go_big_quiet_on))
            refine wpQuiet_nil ?_
            refine wpMix2_eff (by kernel_rfl) ?_
            go_wp2_with fail
            refine (PUT.out _).mono ?_
            rintro e w7 ⟨v7, rfl, o7, k7⟩
            obtain ⟨A7, cap7, rfl, bs7, -⟩ := o7.shape
            have BS7 := Lib.hid bs7
            have B7 := Lib.hid (k7.blk BD.out.drew (fun h => h))
            have R7 := Lib.hid (k7.blk HR.out.drew (fun h => h))
            have S7 := Lib.hid (HZr.out.drew.keeps k7 (fun _ _ _ _ _ h => h))
            have K7 := Lib.hid (HK.out.drew.trans k7 (T := None) (fun _ h => h) (fun _ _ h => h))
            obtain ⟨cl, hcl⟩ : ∃ x, (comL D).length = x := ⟨_, rfl⟩
            rw [hcl] at BS7 ⊢
            clear o7 bs7 k7 hcl
            go_wp2
            obtain ⟨qL2S, qL2h⟩ : ∃ S : World → Prop, ∀ w', S w' ↔ (((convert 27 9 (.slice A7 cl cap7)).run Try.prog w' = .ok (.string sc) w')) := ⟨_, fun _ => Iff.rfl⟩
            have qL2k0 : ∀ x : Memb qL2S, (convert 27 9 (.slice A7 cl cap7)).run Try.prog x.at_ = .ok (.string sc) x.at_ := fun x => ((qL2h _).1 x.is)
            have qL2n : Nonempty (Memb qL2S) := ⟨⟨_, (qL2h _).2 (HSC.out ▸ run_str BS7.out)⟩⟩
            have qL2H := Lib.hid qL2h
            clear qL2h
            refine MixK2.late (D := InS qL2S) (x := 2) (by kernel_rfl) (cls_cons (InS.mk ((qL2H.out _).2 (HSC.out ▸ run_str BS7.out))) (cls_base (InS.mk ((qH.out _).2 (⟨run_load_com B7.out (Com.cs_len DO.out), HSZ.out ▸ run_str S7.out⟩))))) ?_
            refine wpMix2_seg 1 (InS qL2S) (by kernel_rfl) (by decide) (cl_one rfl) ?_
            simp only [List.take_succ_cons, List.take_zero, List.drop_succ_cons, List.drop_zero]
            repeat (first | go_big_quiet_step (fail) | (go_big_quiet_want; first | refine quiet_load qk0 rfl rfl rfl (by simp only [Act.put, List.setIfInBounds_toArray, List.set_cons_succ, List.set_cons_zero]; rfl) ?_; go_big_quiet_on | refine quiet_conv qk1 rfl rfl rfl (by simp only [Act.put, List.setIfInBounds_toArray, List.set_cons_succ, List.set_cons_zero]; rfl) ?_; go_big_quiet_on | refine quiet_conv qL2k0 rfl rfl rfl (by simp only [Act.put, List.setIfInBounds_toArray, List.set_cons_succ, List.set_cons_zero]; rfl) ?_; go_big_quiet_on))
            refine wpQuiet_nil ?_
            refine wpMix2_seg 3 (InS qS) (by kernel_rfl) (by decide) (cl_base [2] rfl (by kernel_rfl)) ?_
            simp only [List.take_succ_cons, List.take_zero, List.drop_succ_cons, List.drop_zero]
            repeat (first | go_big_quiet_step (fail) | (go_big_quiet_want; first | refine quiet_load qk0 rfl rfl rfl (by simp only [Act.put, List.setIfInBounds_toArray, List.set_cons_succ, List.set_cons_zero]; rfl) ?_; go_big_quiet_on | refine quiet_conv qk1 rfl rfl rfl (by simp only [Act.put, List.setIfInBounds_toArray, List.set_cons_succ, List.set_cons_zero]; rfl) ?_; go_big_quiet_on | refine quiet_conv qL2k0 rfl rfl rfl (by simp only [Act.put, List.setIfInBounds_toArray, List.set_cons_succ, List.set_cons_zero]; rfl) ?_; go_big_quiet_on))
            refine wpQuiet_nil ?_
            refine wpMix2_nil ?_
            clear qk0 qk1 qn qH qL2k0 qL2n qL2H
            have E2 := EQ.out BS7.out.byte
            have KE := Lib.hid (KB.out.trans K7.out (T := None) (fun _ h => h) (fun _ _ h => h))
            clear EQ HSZ HSC PUT BS7 S7 HZr BD HR HK K7
            by_cases hq : comL D = zs
            · rw [decide_eq_true hq] at E2
              rw [if_pos hq] at GD
              rw [E2]
              go_wp2_with (first | (refine wpList_load_blk (b := wb.heap.size) (o := 0) (ds := D.cs) B7.out (fun j v hv => by rw [Nat.zero_add]; exact hv) rfl rfl rfl Try.underlying25 rfl (by rw [Com.cs_len DO.out]; exact com_size) ?_) | (refine wpList_store_blk (b := w.heap.size) (o := 0) (ds := D.cs) R7.out (by rw [Com.cs_len DO.out]; decide) (Com.cs_one _) rfl rfl rfl rfl (by rw [Com.cs_len DO.out]; exact com_size) ?_))
              intro w6 b6 k6
              rw [splice_all (by rw [Com.cs_len DO.out]; rfl)] at b6
              have B6 := Lib.hid b6
              have K6 := Lib.hid (KE.out.trans k6 (T := None) (fun _ h => h) (fun b hb e => absurd e (by omega)))
              clear b6 k6 R7 B7 KE E2
              go_wp2
              refine bodyPost_ret (cell_res rfl _ B6.out Try.underlying25 rfl (by rw [Com.cs_len DO.out]; exact com_size) rfl rfl) rfl ?_
              exact ⟨by rw [GD.out]; rfl, K6.out⟩
            · rw [decide_eq_false hq] at E2
              rw [if_neg hq] at GD
              rw [E2]
              go_wp2_with (refine wpList_store_blk (b := w.heap.size) (o := 0) (ds := com0.cs) R7.out (by decide) (Com.cs_one _) rfl rfl rfl (by rw [← com_zero]; rfl) com_size ?_)
              intro w6 b6 k6
              rw [splice_all rfl] at b6
              have B6 := Lib.hid b6
              have K6 := Lib.hid (KE.out.trans k6 (T := None) (fun _ h => h) (fun b hb e => absurd e (by omega)))
              clear b6 k6 R7 B7 KE E2
              go_wp2
              refine bodyPost_ret (cell_res rfl _ B6.out Try.underlying25 rfl com_size rfl rfl) rfl ?_
              exact ⟨by rw [GD.out]; rfl, K6.out⟩
end Go.Proofs.Ytfldgaiiniknpaa
