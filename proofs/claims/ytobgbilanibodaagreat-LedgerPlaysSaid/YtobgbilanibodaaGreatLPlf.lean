
/- Texts put together: Lg3, Lg4, Lg5, Lg6, Lg7. -/
import Derived.Test.YtobgbilanibodaaGreatLPle
import Derived.Test.YtobgbilanibodaaGreatLPlb
import Derived.Test.YtobgbilanibodaaGreatLPla
import Derived.Deep.MidRow
import Derived.Laws.ResultCell
import Derived.Test.YtobgbilanibodaaGreatLPld
namespace Go.Proofs.YtobgbilanibodaaGreat
open Go.RowKit
theorem bigN_snoc (zs : List Int) (z : Int) : bigN (zs ++ [z]) = bigN zs * 256 + z.toNat := by
 unfold bigN
 rw [List.foldl_append]
 rfl
theorem bigN_take (zs : List Int) (k : Nat) (hk : k < zs.length) : bigN (zs.take (k + 1)) = bigN (zs.take k) * 256 + (zs.getD k 0).toNat := by
 rw [← take_snoc zs k hk, bigN_snoc, getD_get 0 hk]
theorem bigN_lt {zs : List Int} (hb : ∀ z ∈ zs, 0 ≤ z ∧ z ≤ 255) : ∀ k, k ≤ zs.length → bigN (zs.take k) < 256 ^ k
  | 0, _ => by simp [bigN]
  | k + 1, h => by
    have h1 := bigN_lt hb k (by omega)
    have h2 := hb (zs.getD k 0) (getD_mem 0 (by omega))
    rw [bigN_take zs k (by omega), Nat.pow_succ]
    omega
theorem or_big {zs : List Int} (hb : ∀ z ∈ zs, 0 ≤ z ∧ z ≤ 255) {k : Nat} (hk : k < zs.length) (h8 : k < 8) :
    bits .or .u64 (IntKind.u64.wrap (((bigN (zs.take k) : Nat) : Int) * 256)) (zs.getD k 0) = ((bigN (zs.take (k + 1)) : Nat) : Int) := by
 have h1 := bigN_lt hb k (by omega)
 have p8 : (256 : Nat) ^ k ≤ 256 ^ 7 := Nat.pow_le_pow_right (by decide) (by omega)
 have p7 : (256 : Nat) ^ 7 = 72057594037927936 := by decide
 have hz := hb (zs.getD k 0) (getD_mem 0 hk)
 obtain ⟨c, hc⟩ : ∃ c : Nat, zs.getD k 0 = c := ⟨(zs.getD k 0).toNat, by omega⟩
 have e := bigN_take zs k hk
 rw [hc] at e hz ⊢
 rw [e]
 generalize bigN (zs.take k) = x at *
 have e3 : IntKind.u64.wrap ((x : Int) * 256) = ((x * 256 : Nat) : Int) := by
  simp [IntKind.wrap, IntKind.bits, IntKind.signed]
  omega
 rw [e3, u64_or_nat _ _ (by omega) (by omega)]
 congr 1
 have h3 := Nat.shiftLeft_add_eq_or_of_lt (show c < 2 ^ 8 by omega) x
 rw [Nat.shiftLeft_eq] at h3
 rw [show x * 256 = x * 2 ^ 8 from rfl, ← h3]
 simp only [Int.toNat_natCast]
set_option maxRecDepth 100000 in
set_option maxHeartbeats 800000 in
theorem shnumber_any (A : Option Addr) (n cap : Nat) (zs : List Int) (w : World) (h : Bs w A n cap zs) (hn : 8 ≤ n) : Calls Tryz.prog 90 #[.slice A n cap] w fun e w' => e = .returned (.int .u64 ((bigN (zs.take 8) : Nat) : Int)) ∧ w = w' := by
 have hle := h.le
 have hmax := h.max
 have HL := Lib.hid h.len
 have HB := Lib.hid h
 obtain ⟨gb, off, rfl, hgb, -⟩ := h.at_ (by omega)
 clear h
 go_enter Tryz.func90, Tryz.ntmps90
 go_wp2
 go_loop [3, 9] (fun xv iv => ∃ k : Nat, k ≤ 8 ∧ iv = .int .i64 (k : Int) ∧ xv = .int .u64 ((bigN (zs.take k) : Nat) : Int)) (fun _ iv => 8 - (intOf iv).toNat)
 case atStart => exact ⟨0, Nat.zero_le _, rfl, rfl⟩
 case round =>
  obtain ⟨k, hk, rfl, rfl⟩ := hrel
  by_cases hlt : k < 8
  ·obtain ⟨bl, of1, z, e1, hz1, hza, hzb, hc1⟩ := HB.out.get (i := k) (by omega)
   cases e1
   have OR := or_big HB.out.byte (k := k) (by rw [HL.out]; omega) hlt
   exact tl164 _
  ·obtain rfl : k = 8 := by omega
   go_wp2
   go_ret
   exact ⟨rfl, rfl⟩
theorem tl166 (P : Prop) (h : P := by
 show res = false
 rw [← HRES.out]
 unfold midOk
 rw [HN.out, decide_eq_false (show ¬ N ≤ 1152921504606846976 by omega), Bool.false_and, Bool.and_false]) : P := h
theorem tl167 (P : Prop) (h : P := by
 show res = _
 rw [← HRES.out]
 unfold midOk
 rw [HN.out, HL.out, decide_eq_true (show N ≤ 1152921504606846976 by omega)]
 rfl) : P := h
theorem tl168 (P : Prop) (h : P := by
 subst h0
 go_wp2
 go_round
 case rel => exact ⟨k + 1, by omega, by go_num, fun j hj => (Nat.lt_succ_iff_lt_or_eq.1 hj).elim (HZ.out j) (fun e => by rw [e]; exact hz1)⟩
 case measure => simp [intOf]; omega) : P := h
theorem tl169 (P : Prop) (h : P := by
 show res = false
 rw [EOK.out, List.all_eq_false]
 refine ⟨z, ?_, by simpa using h0⟩
 rw [← hz1, getD_get 0 (show r + k < zs.length by rw [HL.out]; omega)]
 exact List.mem_of_getElem? (i := k) (by rw [List.getElem?_drop]; exact List.getElem?_eq_getElem _)) : P := h
theorem tl170 (P : Prop) (h : P := by
 show res = true
 rw [EOK.out, List.all_eq_true]
 intro z hz
 obtain ⟨j, hj⟩ := List.getElem?_of_mem hz
 rw [List.getElem?_drop] at hj
 have hl := (List.getElem?_eq_some_iff.1 hj).1
 rw [HL.out] at hl
 have := HZ.out j (by omega)
 rw [getD_get 0 (by rw [HL.out]; omega), (List.getElem?_eq_some_iff.1 hj).2] at this
 simpa using this) : P := h
set_option maxRecDepth 100000 in
set_option maxHeartbeats 1600000 in
theorem shload_any (A : Option Addr) (n cap : Nat) (zs : List Int) (w : World) (h : Bs w A n cap zs) :
    Calls Tryz.prog 66 #[.slice A n cap] w fun e w' => ∃ p, e = .returned (.tuple #[.pointer p, .bool (midOk zs)]) ∧ Keeps None w w' := by
 have hle := h.le
 have hmax := h.max
 have HL := Lib.hid h.len
 have HB := Lib.hid h
 by_cases hn : n = 200
 case neg =>
  have d1 : ((n : Int) != 200) = true := by simp; omega
  have E0 : Hid (midOk zs = false) := by
   show midOk zs = false
   unfold midOk
   rw [HL.out, decide_eq_false hn]
   rfl
  rw [E0.out]
  clear h
  go_enter Tryz.func66, Tryz.ntmps66
  go_wp2
  go_ret2
  exact ⟨_, rfl, Keeps.refl _ _⟩
 subst hn
 obtain ⟨gb, off, rfl, hgb, hcel⟩ := h.at_ (by omega)
 clear h
 have NB := Lib.hid (shnumber_any _ _ _ _ w (HB.out.drop (k := 64) (by decide)) (by decide))
 have MB := bigN_lt (zs := zs.drop 64) (fun z hz => HB.out.byte z (List.mem_of_mem_drop hz)) 8 (by rw [List.length_drop, HL.out]; decide)
 have MN : Hid (midN zs = bigN ((zs.drop 64).take 8)) := rfl
 rw [← MN.out] at NB MB
 rw [pow8] at MB
 obtain ⟨N, hN⟩ : ∃ N, midN zs = N := ⟨_, rfl⟩
 have HN := Lib.hid hN
 rw [hN] at NB MB
 clear hN MN hcel
 obtain ⟨res, HRES⟩ : ∃ x, Hid (midOk zs = x) := ⟨_, rfl⟩
 rw [HRES.out]
 go_enter Tryz.func66, Tryz.ntmps66
 go_wp2_with fail
 refine NB.out.mono ?_
 rintro e w1 ⟨rfl, rfl⟩
 by_cases hm : 1152921504606846976 < N
 ·have d2 : decide ((1152921504606846976 : Int) < (N : Int)) = true := decide_eq_true (by omega)
  have E0 : Hid (res = false) := by
   exact tl166 _
  go_wp2
  go_ret2
  exact ⟨_, by rw [E0.out]; rfl, Keeps.refl _ _⟩
 have d2 : decide ((1152921504606846976 : Int) < (N : Int)) = false := decide_eq_false (by omega)
 have EOK : Hid (res = (zs.drop (72 + N % 128)).all (· == 0)) := by
  exact tl167 _
 clear HRES HN
 go_wp2_with fail
 refine NB.out.mono ?_
 rintro e w1 ⟨rfl, rfl⟩
 clear NB
 go_wp2
 obtain ⟨r, hr⟩ : ∃ r, 72 + N % 128 = r := ⟨_, rfl⟩
 have r1 : 72 ≤ r := by omega
 have r2 : r < 200 := by omega
 obtain ⟨w2, hw2⟩ : ∃ x, w.alloc (.cells ((Tryz.zeroCells138.setIfInBounds 0 (.bool true)).setIfInBounds 9 (.int .i64 (N : Int))) 138) = x := ⟨_, rfl⟩
 have BH : Hid (∃ cs : List Value, cs.length = 138 ∧ Blk w2 w.heap.size cs 138) := by
  refine ⟨((Tryz.zeroCells138.setIfInBounds 0 (.bool true)).setIfInBounds 9 (.int .i64 (N : Int))).toList, ?_, ?_⟩
  ·rw [Array.length_toList, Array.size_setIfInBounds, Array.size_setIfInBounds]
   kernel_rfl
  ·rw [← hw2]
   exact Blk.new w _ 138
 have K2 : Hid (Keeps None w w2) := by rw [← hw2]; exact (Keeps.refl None w).alloc _
 rw [hw2]
 rw [hr] at EOK ⊢
 clear hw2 hr d2 hm MB
 have HB2 := Lib.hid (HB.out.keeps K2.out (fun _ _ _ _ _ h => h))
 go_loop [32] (fun iv => ∃ k : Nat, k ≤ 200 - r ∧ iv = .int .i64 (k : Int) ∧ ∀ j, j < k → zs.getD (r + j) 0 = 0) (fun iv => 200 - r - (intOf iv).toNat)
 case atStart => exact ⟨0, Nat.zero_le _, rfl, fun j hj => absurd hj (Nat.not_lt_zero j)⟩
 case round =>
  obtain ⟨k, hk, rfl, hz⟩ := hrel
  have HZ := Lib.hid hz
  clear hz
  by_cases hlt : k < 200 - r
  ·obtain ⟨bl, of1, z, e1, hz1, hza, hzb, hc1⟩ := HB2.out.get (i := r + k) (by omega)
   cases e1
   rw [← Nat.add_assoc] at hc1
   by_cases h0 : z = 0
   ·exact tl168 _
   ·have d3 : (z != 0) = true := by simpa using h0
    have E0 : Hid (res = false) := by
     exact tl169 _
    go_wp2
    go_ret2
    exact ⟨⟨_, by rw [E0.out]; rfl⟩, K2.out⟩
  ·obtain rfl : k = 200 - r := by omega
   have E1 : Hid (res = true) := by
    exact tl170 _
   clear HZ EOK hk hlt
   obtain ⟨cs, hcl, hbl⟩ := BH.out
   have BL := Lib.hid hbl
   have CLN := Lib.hid hcl
   clear BH hcl hbl
   go_wp2
   go_loopw [39] (fun iv wr => ∃ (k : Nat) (cs : List Value), k ≤ 8 ∧ iv = .int .i64 (k : Int) ∧ cs.length = 138 ∧ Blk wr w.heap.size cs 138 ∧ Keeps None w wr) (fun iv _ => 8 - (intOf iv).toNat)
   case atStart => exact ⟨0, cs, Nat.zero_le _, rfl, CLN.out, BL.out, K2.out⟩
   case round =>
    obtain ⟨k, cs, hk, rfl, hcl, hbl, hkp⟩ := hrel
    obtain ⟨wv, rfl⟩ : ∃ x, x = wr := ⟨_, rfl⟩
    have B3 := Lib.hid hbl
    have C3 := Lib.hid hcl
    have K3 := Lib.hid hkp
    have BSV := Lib.hid (HB.out.keeps hkp (fun _ _ _ _ _ h => h))
    clear hcl hbl hkp BL CLN
    by_cases hlt : k < 8
    ·have NUM := Lib.hid (fun w h => shnumber_any (some ⟨gb, off + 8 * k, none⟩) (200 - 8 * k) (cap - 8 * k) (zs.drop (8 * k)) w h (by omega))
     go_wp2
     obtain ⟨mS, mh⟩ : ∃ S : World → Prop, ∀ w', S w' ↔ (True) := ⟨_, fun _ => Iff.rfl⟩
     have mn : Nonempty (Memb mS) := ⟨⟨(wv).drew, (mh _).2 trivial⟩⟩
     have mH := Lib.hid mh
     clear mh
     refine wp_region_mix [6, 10] (InS mS) (by kernel_rfl) (by kernel_rfl) (InS.mk ((mH.out _).2 trivial)) ?_
     refine wpMix_seg 6 (by kernel_rfl) (by decide) ?_
     simp only [tds]
     repeat (go_big_quiet_step (fail))
     refine wpQuiet_nil ?_
     refine wpMix_eff (by kernel_rfl) ?_
     go_wp2_with fail
     refine (NUM.out _ ((BSV.out.drew).drop (by omega))).mono ?_
     rintro e w3 ⟨rfl, rfl⟩
     have BD : Hid (Blk wv.drew w.heap.size cs 138) := (Keeps.refl None wv).drew.blk B3.out (fun h => h)
     obtain ⟨v0, hv0⟩ : ∃ v, cs[1 + k]? = some v := ⟨_, List.getElem?_eq_getElem (by rw [C3.out]; omega)⟩
     have c2 := BD.out.cellD (1 + k) v0 hv0
     have c3 := BD.out.frozen (1 + k)
     have B5 := Lib.hid ((Keeps.refl None _).drew.blk (B3.out.set (1 + k) (.int .u64 ((bigN ((zs.drop (8 * k)).take 8) : Nat) : Int))) (fun h => h))
     have K5 := Lib.hid (K3.out.setCell ⟨w.heap.size, 1 + k, none⟩ (.int .u64 ((bigN ((zs.drop (8 * k)).take 8) : Nat) : Int)) (by simp)).drew
     clear NUM BSV hv0
     go_wp2
     refine MixK.on (InS.mk ((mH.out _).2 (⟨⟩))) ?_
     refine wpMix_seg 3 (by kernel_rfl) (by decide) ?_
     simp only [tds]
     repeat (go_big_quiet_step (fail))
     refine wpQuiet_nil ?_
     refine wpMix_eff (by kernel_rfl) ?_
     go_wp2
     refine MixK.last (by kernel_rfl) ?_
     refine wpMix_nil ?_
     clear  mn mH
     go_wp2
     go_roundw
     case rel => exact ⟨k + 1, _, by omega, by go_num, by rw [List.length_set]; exact C3.out, B5.out, K5.out⟩
     case measure => simp [intOf]; omega
    ·obtain rfl : k = 8 := by omega
     clear BSV hlt hk
     go_wp2
     obtain ⟨mcS, mch⟩ : ∃ S : World → Prop, ∀ w', S w' ↔ (True) := ⟨_, fun _ => Iff.rfl⟩
     have mcn : Nonempty (Memb mcS) := ⟨⟨(wv).drew, (mch _).2 trivial⟩⟩
     have mcH := Lib.hid mch
     clear mch
     refine wp_region_mix [6] (InS mcS) (by kernel_rfl) (by kernel_rfl) (InS.mk ((mcH.out _).2 trivial)) ?_
     refine wpMix_seg 6 (by kernel_rfl) (by decide) ?_
     simp only [tds]
     repeat (go_big_quiet_step (fail))
     refine wpQuiet_nil ?_
     refine wpMix_eff (by kernel_rfl) ?_
     have B4 : Hid (Blk wv.drew w.heap.size cs 138) := (Keeps.refl None wv).drew.blk B3.out (fun h => h)
     have S4 : Hid (Bs wv.drew (some ⟨gb, off + 72, none⟩) 128 (cap - 72) (zs.drop 72)) := (HB.out.keeps K3.out.drew (fun _ _ _ _ _ h => h)).drop (by decide)
     go_wp2_with (refine wpList_copy_blk (g := w.heap.size) (off := 10) (dLen := 128) (dCap := 128) rfl rfl rfl rfl (fun _ => rfl) B4.out S4.out (by rw [C3.out]; decide) ?_)
     intro w4 b4 k4
     have K4 : Hid (Keeps None w w4) := K3.out.drew.trans k4 (fun _ h => h) (fun b hb e => absurd e (by omega))
     clear b4 k4 B4 S4
     go_wp2
     refine MixK.last (by kernel_rfl) ?_
     refine wpMix_nil ?_
     clear  mcn mcH
     go_wp2
     go_ret2
     exact ⟨_, by rw [E1.out]; rfl, K4.out⟩
open Go.RowKit
def Com.cs (c : Com) : List Value := .int .i64 c.slot :: .int .u64 (c.ver : Int) :: .int .u64 (c.fl : Int) :: .int .i64 c.len :: c.me.map (.int .u8)
def Com.v (c : Com) : Value := .agg c.cs.toArray
theorem Com.cs_len {c : Com} (o : c.ok) : c.cs.length = 68 := by simp [Com.cs, o.ml]
theorem concat5 (p1 p2 p3 p4 p5 : Part) (bp : Nat) (T : TypeId) (w : World) (hb : Blk w bp [p1.val, p2.val, p3.val, p4.val, p5.val] T) (h1 : Bs w p1.A p1.n p1.cap p1.zs) (h2 : Bs w p2.A p2.n p2.cap p2.zs) (h3 : Bs w p3.A p3.n p3.cap p3.zs) (h4 : Bs w p4.A p4.n p4.cap p4.zs) (h5 : Bs w p5.A p5.n p5.cap p5.zs)
    (n0 : 0 < p1.n) (n1 : p1.n + p2.n + p3.n + p4.n + p5.n ≤ 1000000) :
    Calls Tryz.prog 57 #[.slice (some ⟨bp, 0, none⟩) 5 5] w fun e w' => ∃ v, e = .returned v ∧ Own w' w.heap.size v (p1.zs ++ (p2.zs ++ (p3.zs ++ (p4.zs ++ p5.zs)))) ∧ Keeps None w w' := by
 have e : cat [p1, p2, p3, p4, p5] = p1.zs ++ (p2.zs ++ (p3.zs ++ (p4.zs ++ p5.zs))) := by simp [cat]
 rw [← e]
 refine concat_any [p1, p2, p3, p4, p5] 5 bp T w hb rfl (fun p hp => ?_) (by simp [tot]; omega) (by simp [tot]; omega) (by decide)
 simp only [List.mem_cons, List.not_mem_nil, or_false] at hp
 rcases hp with rfl | rfl | rfl | rfl | rfl <;> assumption
theorem tl171 (P : Prop) (h : P := by
 have HP : Hid (comL c = []) := if_neg (fun h => by obtain ⟨f1, f2, f3, f4⟩ := h; omega)
 go_enter Tryz.func34, Tryz.ntmps34
 go_wp2
 go_ret
 exact ⟨_, rfl, by rw [HP.out]; exact Own.nil _ _, (Keeps.refl _ _).alloc _⟩) : P := h
set_option maxRecDepth 100000 in
set_option maxHeartbeats 1600000 in
theorem lgputc_any (c : Com) (o : c.ok) (w : World) : Calls Tryz.prog 34 #[c.v] w (Cloned w (comL c)) := by
 unfold Com.v
 have a0 : c.cs.toArray[0]? = some (.int .i64 c.slot) := rfl
 have a1 : c.cs.toArray[1]? = some (.int .u64 (c.ver : Int)) := rfl
 have a2 : c.cs.toArray[2]? = some (.int .u64 (c.fl : Int)) := rfl
 have a3 : c.cs.toArray[3]? = some (.int .i64 c.len) := rfl
 have BL := Lib.hid (Blk.new w c.cs 41)
 have ML := Lib.hid o.ml
 have MB := Lib.hid o.mb
 have ME := Lib.hid (show ∀ i, i < 64 → c.cs[4 + i]? = some (.int .u8 (c.me.getD i 0)) from fun i hi => by
  rw [Nat.add_comm, show c.cs[i + 4]? = (c.me.map (.int .u8))[i]? from rfl]
  exact map_getD 0 (by rw [o.ml]; exact hi))
 have VV := Lib.hid o.v
 have FF := Lib.hid o.f
 obtain ⟨A, hA⟩ : ∃ A, c.cs.toArray = A := ⟨_, rfl⟩
 rw [hA] at a0 a1 a2 a3 BL ⊢
 clear hA o
 by_cases g1 : c.slot < 0
 ·have d1 : decide (c.slot < 0) = true := decide_eq_true g1
  exact tl171 _
 have d1 : decide (c.slot < 0) = false := decide_eq_false g1
 by_cases g2 : 1 < c.slot
 ·have d2 : decide (1 < c.slot) = true := decide_eq_true g2
  exact tl171 _
 have d2 : decide (1 < c.slot) = false := decide_eq_false g2
 by_cases g3 : 0 ≤ c.len
 case neg =>
  have d3 : decide (0 ≤ c.len) = false := decide_eq_false g3
  exact tl171 _
 have d3 : decide (0 ≤ c.len) = true := decide_eq_true g3
 by_cases g4 : c.len ≤ 2147483647
 case neg =>
  have d4 : decide (c.len ≤ 2147483647) = false := decide_eq_false g4
  exact tl171 _
 have d4 : decide (c.len ≤ 2147483647) = true := decide_eq_true g4
 have HP : Hid (comL c = lowL 8 c.slot.toNat ++ (lowL 8 c.ver ++ (lowL 8 c.fl ++ (lowL 8 c.len.toNat ++ c.me)))) := if_pos ⟨by omega, by omega, g3, g4⟩
 obtain ⟨sl, hsl⟩ : ∃ n : Nat, c.slot = n := ⟨c.slot.toNat, by omega⟩
 obtain ⟨ln, hln⟩ : ∃ n : Nat, c.len = n := ⟨c.len.toNat, by omega⟩
 have N1 := Lib.hid (fun w => lgnumber_any sl (by omega) w)
 have N2 := Lib.hid (fun w => lgnumber_any c.ver VV.out w)
 have N3 := Lib.hid (fun w => lgnumber_any c.fl FF.out w)
 have N4 := Lib.hid (fun w => lgnumber_any ln (by omega) w)
 rw [hsl] at a0 d1 d2
 rw [hln] at a3 d3 d4
 have HQ : Hid (comL c = lowL 8 sl ++ (lowL 8 c.ver ++ (lowL 8 c.fl ++ (lowL 8 ln ++ c.me)))) := by show _ = _; rw [HP.out, hsl, hln]; rfl
 have HSL := Lib.hid hsl
 have HLN := Lib.hid hln
 have s1 : sl ≤ 1 := by omega
 have l1 : ln ≤ 2147483647 := by omega
 clear HP hsl hln g1 g2 g3 g4
 go_enter Tryz.func34, Tryz.ntmps34
 go_wp2
 obtain ⟨wb, hwb⟩ : ∃ x, w.alloc (.cells A 41) = x := ⟨_, rfl⟩
 have KB : Hid (Keeps None w wb) := by rw [← hwb]; exact (Keeps.refl None w).alloc _
 have HS : Hid (w.heap.size + 1 = wb.heap.size) := by show _ = _; rw [← hwb]; simp
 rw [hwb] at BL ⊢
 clear hwb a0 a1 a2 a3
 have cb0 : ∀ w2, Keeps None wb w2 → w2.cell? ⟨w.heap.size, 0, none⟩ = some (.int .i64 (sl : Int)) := fun w2 k => (k.blk BL.out (fun h => h)).cellD 0 _ (by rw [← HSL.out]; rfl)
 have cb1 : ∀ w2, Keeps None wb w2 → w2.cell? ⟨w.heap.size, 1, none⟩ = some (.int .u64 (c.ver : Int)) := fun w2 k => (k.blk BL.out (fun h => h)).cellD 1 _ rfl
 have cb2 : ∀ w2, Keeps None wb w2 → w2.cell? ⟨w.heap.size, 2, none⟩ = some (.int .u64 (c.fl : Int)) := fun w2 k => (k.blk BL.out (fun h => h)).cellD 2 _ rfl
 have cb3 : ∀ w2, Keeps None wb w2 → w2.cell? ⟨w.heap.size, 3, none⟩ = some (.int .i64 (ln : Int)) := fun w2 k => (k.blk BL.out (fun h => h)).cellD 3 _ (by rw [← HLN.out]; rfl)
 have CB := Lib.hid (fun w2 k => (⟨cb0 w2 k, cb1 w2 k, cb2 w2 k, cb3 w2 k⟩ : _ ∧ _ ∧ _ ∧ _))
 have KR := Lib.hid (Keeps.refl None wb)
 have ARR : Hid (∀ w2, Keeps None wb w2 → Bs w2 (some ⟨w.heap.size, 4, none⟩) 64 64 c.me) := fun w2 k => ⟨ML.out, Nat.le_refl _, by decide, (fun e => by cases e), MB.out, fun _ => ⟨w.heap.size, 4, rfl, by have := k.size; have := HS.out; omega, fun i hi => (k.blk BL.out (fun h => h)).cellD (4 + i) _ (ME.out i hi)⟩⟩
 clear cb0 cb1 cb2 cb3
 obtain ⟨mS, mh⟩ : ∃ S : World → Prop, ∀ w', S w' ↔ (w'.cell? ⟨w.heap.size, 0, none⟩ = some (.int .i64 (sl : Int)) ∧ w'.cell? ⟨w.heap.size, 1, none⟩ = some (.int .u64 (c.ver : Int)) ∧ w'.cell? ⟨w.heap.size, 2, none⟩ = some (.int .u64 (c.fl : Int)) ∧ w'.cell? ⟨w.heap.size, 3, none⟩ = some (.int .i64 (ln : Int))) := ⟨_, fun _ => Iff.rfl⟩
 have mk0 : ∀ x : Memb mS, x.at_.cell? ⟨w.heap.size, 0, none⟩ = some (.int .i64 (sl : Int)) := fun x => ((mh _).1 x.is).1
 have mk1 : ∀ x : Memb mS, x.at_.cell? ⟨w.heap.size, 1, none⟩ = some (.int .u64 (c.ver : Int)) := fun x => ((mh _).1 x.is).2.1
 have mk2 : ∀ x : Memb mS, x.at_.cell? ⟨w.heap.size, 2, none⟩ = some (.int .u64 (c.fl : Int)) := fun x => ((mh _).1 x.is).2.2.1
 have mk3 : ∀ x : Memb mS, x.at_.cell? ⟨w.heap.size, 3, none⟩ = some (.int .i64 (ln : Int)) := fun x => ((mh _).1 x.is).2.2.2
 have mn : Nonempty (Memb mS) := ⟨⟨(wb).drew, (mh _).2 ⟨(CB.out _ KR.out).1, (CB.out _ KR.out).2.1, (CB.out _ KR.out).2.2.1, (CB.out _ KR.out).2.2.2⟩⟩⟩
 have mH := Lib.hid mh
 clear mh
 refine wp_region_mix [3, 6, 9, 13, 16, 17] (InS mS) (by kernel_rfl) (by kernel_rfl) (InS.mk ((mH.out _).2 ⟨(CB.out _ KR.out).1, (CB.out _ KR.out).2.1, (CB.out _ KR.out).2.2.1, (CB.out _ KR.out).2.2.2⟩)) ?_
 refine wpMix_seg 3 (by kernel_rfl) (by decide) ?_
 simp only [tds]
 repeat (go_big_quiet_step (fail))
 refine wpQuiet_nil ?_
 refine wpMix_eff (by kernel_rfl) ?_
 go_wp2_with fail
 refine (N1.out _).mono ?_
 rintro e w1 ⟨v1, rfl, o1, k1⟩
 obtain ⟨A1, cap1, rfl, bs1, -⟩ := o1.shape
 rw [lowL_len] at bs1 ⊢
 have K1 := Lib.hid k1
 have X1 := Lib.hid (KR.out.drew.trans k1 (T := None) (fun _ h => h) (fun _ _ h => h))
 have C1 := Lib.hid bs1
 clear o1 k1 bs1
 go_wp2
 refine MixK.on (InS.mk ((mH.out _).2 (⟨(CB.out _ X1.out).1, (CB.out _ X1.out).2.1, (CB.out _ X1.out).2.2.1, (CB.out _ X1.out).2.2.2⟩))) ?_
 refine wpMix_seg 2 (by kernel_rfl) (by decide) ?_
 simp only [tds]
 repeat (go_big_quiet_step (fail))
 refine wpQuiet_nil ?_
 refine wpMix_eff (by kernel_rfl) ?_
 go_wp2_with fail
 refine (N2.out _).mono ?_
 rintro e w2 ⟨v2, rfl, o2, k2⟩
 obtain ⟨A2, cap2, rfl, bs2, -⟩ := o2.shape
 rw [lowL_len] at bs2 ⊢
 have K2 := Lib.hid k2
 have X2 := Lib.hid (X1.out.trans k2 (T := None) (fun _ h => h) (fun _ _ h => h))
 have C2 := Lib.hid bs2
 clear o2 k2 bs2
 go_wp2
 have D1 := Lib.hid (C1.out.keeps K2.out (fun _ _ _ _ _ h => h))
 refine MixK.on (InS.mk ((mH.out _).2 (⟨(CB.out _ X2.out).1, (CB.out _ X2.out).2.1, (CB.out _ X2.out).2.2.1, (CB.out _ X2.out).2.2.2⟩))) ?_
 refine wpMix_seg 2 (by kernel_rfl) (by decide) ?_
 simp only [tds]
 repeat (go_big_quiet_step (fail))
 refine wpQuiet_nil ?_
 refine wpMix_eff (by kernel_rfl) ?_
 go_wp2_with fail
 refine (N3.out _).mono ?_
 rintro e w3 ⟨v3, rfl, o3, k3⟩
 obtain ⟨A3, cap3, rfl, bs3, -⟩ := o3.shape
 rw [lowL_len] at bs3 ⊢
 have K3 := Lib.hid k3
 have X3 := Lib.hid (X2.out.trans k3 (T := None) (fun _ h => h) (fun _ _ h => h))
 have C3 := Lib.hid bs3
 clear o3 k3 bs3
 go_wp2
 have E1 := Lib.hid (D1.out.keeps K3.out (fun _ _ _ _ _ h => h))
 have E2 := Lib.hid (C2.out.keeps K3.out (fun _ _ _ _ _ h => h))
 refine MixK.on (InS.mk ((mH.out _).2 (⟨(CB.out _ X3.out).1, (CB.out _ X3.out).2.1, (CB.out _ X3.out).2.2.1, (CB.out _ X3.out).2.2.2⟩))) ?_
 refine wpMix_seg 3 (by kernel_rfl) (by decide) ?_
 simp only [tds]
 repeat (go_big_quiet_step (fail))
 refine wpQuiet_nil ?_
 refine wpMix_eff (by kernel_rfl) ?_
 go_wp2_with fail
 refine (N4.out _).mono ?_
 rintro e w4 ⟨v4, rfl, o4, k4⟩
 obtain ⟨A4, cap4, rfl, bs4, -⟩ := o4.shape
 rw [lowL_len] at bs4 ⊢
 have K4 := Lib.hid k4
 have X4 := Lib.hid (X3.out.trans k4 (T := None) (fun _ h => h) (fun _ _ h => h))
 have C4 := Lib.hid bs4
 clear o4 k4 bs4
 go_wp2
 have P1 := Lib.hid (E1.out.keeps K4.out (fun _ _ _ _ _ h => h))
 have P2 := Lib.hid (E2.out.keeps K4.out (fun _ _ _ _ _ h => h))
 have P3 := Lib.hid (C3.out.keeps K4.out (fun _ _ _ _ _ h => h))
 refine MixK.on (InS.mk ((mH.out _).2 (⟨(CB.out _ X4.out).1, (CB.out _ X4.out).2.1, (CB.out _ X4.out).2.2.1, (CB.out _ X4.out).2.2.2⟩))) ?_
 refine wpMix_seg 2 (by kernel_rfl) (by decide) ?_
 simp only [tds]
 repeat (go_big_quiet_step (fail))
 refine wpQuiet_nil ?_
 refine wpMix_eff (by kernel_rfl) ?_
 go_wp2
 refine MixK.on (InS.mk ((mH.out _).2 (⟨(CB.out _ (X4.out.alloc _)).1, (CB.out _ (X4.out.alloc _)).2.1, (CB.out _ (X4.out.alloc _)).2.2.1, (CB.out _ (X4.out.alloc _)).2.2.2⟩))) ?_
 refine wpMix_eff (by kernel_rfl) ?_
 have PB := Lib.hid (Blk.new w4 [.slice A1 8 cap1, .slice A2 8 cap2, .slice A3 8 cap3, .slice A4 8 cap4, .slice (some ⟨w.heap.size, 4, none⟩) 64 64] 37)
 have X5 := Lib.hid (X4.out.alloc (.cells #[.slice A1 8 cap1, .slice A2 8 cap2, .slice A3 8 cap3, .slice A4 8 cap4, .slice (some ⟨w.heap.size, 4, none⟩) 64 64] 37))
 have K5 := Lib.hid ((Keeps.refl None w4).alloc (.cells #[.slice A1 8 cap1, .slice A2 8 cap2, .slice A3 8 cap3, .slice A4 8 cap4, .slice (some ⟨w.heap.size, 4, none⟩) 64 64] 37))
 go_wp2_with fail
 refine (concat5 ⟨A1, 8, cap1, lowL 8 sl⟩ ⟨A2, 8, cap2, lowL 8 c.ver⟩ ⟨A3, 8, cap3, lowL 8 c.fl⟩ ⟨A4, 8, cap4, lowL 8 ln⟩ ⟨some ⟨w.heap.size, 4, none⟩, 64, 64, c.me⟩ w4.heap.size 37 _ PB.out (P1.out.keeps K5.out (fun _ _ _ _ _ h => h)) (P2.out.keeps K5.out (fun _ _ _ _ _ h => h)) (P3.out.keeps K5.out (fun _ _ _ _ _ h => h)) (C4.out.keeps K5.out (fun _ _ _ _ _ h => h)) (ARR.out _ X5.out) (by simp) (by simp)).mono ?_
 rintro e w6 ⟨v6, rfl, o6, k6⟩
 have O6 : Hid (Own w6 w.heap.size v6 (comL c)) := by (rw [HQ.out]; exact o6.lower (by have h1 := X5.out.size; have h2 := HS.out; omega))
 have X6 := Lib.hid (X5.out.trans k6 (T := None) (fun _ h => h) (fun _ _ h => h))
 have K6 := Lib.hid (KB.out.trans X6.out (T := None) (fun _ h => h) (fun _ _ h => h))
 clear o6 k6
 go_wp2
 refine MixK.on (InS.mk ((mH.out _).2 (⟨(CB.out _ X6.out).1, (CB.out _ X6.out).2.1, (CB.out _ X6.out).2.2.1, (CB.out _ X6.out).2.2.2⟩))) ?_
 refine wpMix_seg 1 (by kernel_rfl) (by decide) ?_
 simp only [tds]
 repeat (go_big_quiet_step (fail))
 refine wpQuiet_nil ?_
 refine wpMix_nil ?_
 clear mk0 mk1 mk2 mk3 mn mH
 go_wp2
 go_ret
 exact ⟨_, rfl, O6.out, K6.out⟩
open Go.RowKit
def Chk.cs (k : Chk) (A : Option Addr) (n cap : Nat) : List Value := .int .i64 k.slot :: .int .i64 k.block :: .int .i64 k.off :: .int .i64 k.dn :: (k.id.map (.int .u8) ++ [.slice A n cap])
def Chk.v (k : Chk) (A : Option Addr) (n cap : Nat) : Value := .agg (k.cs A n cap).toArray
theorem Chk.cs_len {k : Chk} (o : k.ok) (A : Option Addr) (n cap : Nat) : (k.cs A n cap).length = 13 := by simp [Chk.cs, o.il]
theorem Chk.cs_mid {k : Chk} (o : k.ok) (A : Option Addr) (n cap : Nat) : (k.cs A n cap)[12]? = some (.slice A n cap) := by
 show (k.id.map (Value.int .u8) ++ [.slice A n cap])[8]? = _
 rw [List.getElem?_append_right (by rw [List.length_map, o.il]; exact Nat.le_refl _), List.length_map, o.il]
 rfl
theorem Chk.cs_id {k : Chk} (o : k.ok) (A : Option Addr) (n cap : Nat) (i : Nat) (hi : i < 8) : (k.cs A n cap)[4 + i]? = some (.int .u8 (k.id.getD i 0)) := by
 rw [Nat.add_comm]
 show (k.id.map (Value.int .u8) ++ [.slice A n cap])[i]? = _
 rw [List.getElem?_append_left (by rw [List.length_map, o.il]; exact hi)]
 exact map_getD 0 (by rw [o.il]; exact hi)
theorem or_first {sl bl : Nat} (hs : sl ≤ 1) (hb : bl ≤ 16) : bits .or .u64 (sl : Int) ((bl : Int) * 256) = ((sl + 256 * bl : Nat) : Int) := by
 have e : (bl : Int) * 256 = ((bl * 256 : Nat) : Int) := by omega
 rw [e, u64_or_nat _ _ (by omega) (by omega)]
 congr 1
 have h3 := Nat.shiftLeft_add_eq_or_of_lt (show sl < 2 ^ 8 by omega) bl
 rw [Nat.shiftLeft_eq] at h3
 rw [Nat.or_comm, show bl * 256 = bl * 2 ^ 8 from rfl, ← h3]
 omega
theorem tl172 (P : Prop) (h : P := by
 have HP : Hid (chkL k = []) := if_neg (fun h => by obtain ⟨⟨f1, f2, f3, f4⟩, ⟨f5, f6, f7, f8⟩, -⟩ := h; omega)
 go_enter Tryz.func38, Tryz.ntmps38
 go_wp2
 go_ret
 exact ⟨_, rfl, by rw [HP.out]; exact Own.nil _ _, (Keeps.refl _ _).alloc _⟩) : P := h
set_option maxRecDepth 100000 in
set_option maxHeartbeats 1600000 in
theorem lgputk_any (k : Chk) (o : k.ok) (A : Option Addr) (n cap : Nat) (w : World) (h : Bs w A n cap k.mid) : Calls Tryz.prog 38 #[k.v A n cap] w (Cloned w (chkL k)) := by
 unfold Chk.v
 have a0 : (k.cs A n cap).toArray[0]? = some (.int .i64 k.slot) := rfl
 have a1 : (k.cs A n cap).toArray[1]? = some (.int .i64 k.block) := rfl
 have a2 : (k.cs A n cap).toArray[2]? = some (.int .i64 k.off) := rfl
 have a3 : (k.cs A n cap).toArray[3]? = some (.int .i64 k.dn) := rfl
 have a12 : (k.cs A n cap).toArray[12]? = some (.slice A n cap) := by rw [List.getElem?_toArray]; exact Chk.cs_mid o A n cap
 have BL := Lib.hid (Blk.new w (k.cs A n cap) 44)
 have IL := Lib.hid o.il
 have IB := Lib.hid o.ib
 have MID := Lib.hid (Chk.cs_mid o A n cap)
 have ME := Lib.hid (Chk.cs_id o A n cap)
 have HB := Lib.hid h
 have hle := h.le
 have hmx := h.max
 have HLN := Lib.hid h.len
 obtain ⟨V, hV⟩ : ∃ V, (k.cs A n cap).toArray = V := ⟨_, rfl⟩
 rw [hV] at a0 a1 a2 a3 a12 BL ⊢
 clear hV o h
 by_cases g1 : k.slot < 0
 ·have d1 : decide (k.slot < 0) = true := decide_eq_true g1
  exact tl172 _
 have d1 : decide (k.slot < 0) = false := decide_eq_false g1
 by_cases g2 : 1 < k.slot
 ·have d2 : decide (1 < k.slot) = true := decide_eq_true g2
  exact tl172 _
 have d2 : decide (1 < k.slot) = false := decide_eq_false g2
 by_cases g3 : k.block < 0
 ·have d3 : decide (k.block < 0) = true := decide_eq_true g3
  exact tl172 _
 have d3 : decide (k.block < 0) = false := decide_eq_false g3
 by_cases g4 : 16 < k.block
 ·have d4 : decide (16 < k.block) = true := decide_eq_true g4
  exact tl172 _
 have d4 : decide (16 < k.block) = false := decide_eq_false g4
 by_cases g5 : 0 ≤ k.off
 case neg =>
  have d5 : decide (0 ≤ k.off) = false := decide_eq_false g5
  exact tl172 _
 have d5 : decide (0 ≤ k.off) = true := decide_eq_true g5
 by_cases g6 : k.off ≤ 2147483647
 case neg =>
  have d6 : decide (k.off ≤ 2147483647) = false := decide_eq_false g6
  exact tl172 _
 have d6 : decide (k.off ≤ 2147483647) = true := decide_eq_true g6
 by_cases g7 : 0 ≤ k.dn
 case neg =>
  have d7 : decide (0 ≤ k.dn) = false := decide_eq_false g7
  exact tl172 _
 have d7 : decide (0 ≤ k.dn) = true := decide_eq_true g7
 by_cases g8 : k.dn ≤ 2147483647
 case neg =>
  have d8 : decide (k.dn ≤ 2147483647) = false := decide_eq_false g8
  exact tl172 _
 have d8 : decide (k.dn ≤ 2147483647) = true := decide_eq_true g8
 obtain ⟨sl, hsl⟩ : ∃ n : Nat, k.slot = n := ⟨k.slot.toNat, by omega⟩
 obtain ⟨bl, hbl⟩ : ∃ n : Nat, k.block = n := ⟨k.block.toNat, by omega⟩
 obtain ⟨of, hof⟩ : ∃ n : Nat, k.off = n := ⟨k.off.toNat, by omega⟩
 obtain ⟨dn, hdn⟩ : ∃ n : Nat, k.dn = n := ⟨k.dn.toNat, by omega⟩
 have s1 : sl ≤ 1 := by omega
 have s2 : bl ≤ 16 := by omega
 have s3 : of ≤ 2147483647 := by omega
 have s4 : dn ≤ 2147483647 := by omega
 have N1 := Lib.hid (fun w => lgnumber_any (sl + 256 * bl) (by omega) w)
 have N2 := Lib.hid (fun w => lgnumber_any of (by omega) w)
 have N3 := Lib.hid (fun w => lgnumber_any dn (by omega) w)
 have LD := Lib.hid (fun w h => shload_any A n cap k.mid w h)
 have EO := or_first s1 s2
 have LO1 := Lib.hid (fun w => lglength_any (of : Int) w)
 rw [decide_eq_true (show 0 ≤ (of : Int) ∧ (of : Int) ≤ 2147483647 by omega)] at LO1
 have LO2 := Lib.hid (fun w => lglength_any (dn : Int) w)
 rw [decide_eq_true (show 0 ≤ (dn : Int) ∧ (dn : Int) ≤ 2147483647 by omega)] at LO2
 rw [hsl] at a0 d1 d2
 rw [hbl] at a1 d3 d4
 rw [hof] at a2 d5 d6
 rw [hdn] at a3 d7 d8
 have HQ : Hid (midOk k.mid = true → chkL k = lowL 8 (sl + 256 * bl) ++ (lowL 8 of ++ (lowL 8 dn ++ (k.id ++ k.mid)))) := fun hm => by
  rw [show chkL k = _ from if_pos ⟨⟨by omega, by omega, by omega, by omega⟩, ⟨g5, g6, g7, g8⟩, hm⟩, hsl, hbl, hof, hdn]
  rfl
 have HN : Hid (midOk k.mid = false → chkL k = []) := fun hm => if_neg (fun h => by have h2 := h.2.2; rw [hm] at h2; cases h2)
 have HC : Hid ((k.cs A n cap)[0]? = some (.int .i64 (sl : Int)) ∧ (k.cs A n cap)[1]? = some (.int .i64 (bl : Int)) ∧ (k.cs A n cap)[2]? = some (.int .i64 (of : Int)) ∧ (k.cs A n cap)[3]? = some (.int .i64 (dn : Int))) := by
  rw [← hsl, ← hbl, ← hof, ← hdn]
  exact ⟨rfl, rfl, rfl, rfl⟩
 obtain ⟨ok, hok⟩ : ∃ b, midOk k.mid = b := ⟨_, rfl⟩
 rw [hok] at LD HQ HN
 have HOK := Lib.hid hok
 clear hok hsl hbl hof hdn g1 g2 g3 g4 g5 g6 g7 g8
 have HB2 : Hid (Bs (w.alloc (.cells V 44)) A n cap k.mid) := HB.out.keeps ((Keeps.refl None w).alloc _) (fun _ _ _ _ _ h => h)
 have KB0 : Hid (Keeps None w (w.alloc (.cells V 44))) := (Keeps.refl None w).alloc _
 have HS0 : Hid (w.heap.size + 1 = (w.alloc (.cells V 44)).heap.size) := by show _ = _; simp
 go_enter Tryz.func38, Tryz.ntmps38
 go_wp2_with fail
 refine (LO1.out _).mono ?_
 rintro e wX ⟨rfl, rfl⟩
 go_wp2_with fail
 refine (LO2.out _).mono ?_
 rintro e wX ⟨rfl, rfl⟩
 go_wp2_with fail
 refine (LD.out _ HB2.out).mono ?_
 rintro e wl ⟨p, rfl, kl⟩
 have BB := Lib.hid (kl.blk BL.out (fun h => h))
 have KB := Lib.hid (KB0.out.trans kl (T := None) (fun _ h => h) (fun _ _ h => h))
 have HBl := Lib.hid (HB2.out.keeps kl (fun _ _ _ _ _ h => h))
 have HS : Hid (w.heap.size + 1 ≤ wl.heap.size) := by have := kl.size; have := HS0.out; show _ ≤ _; omega
 clear kl KB0 HS0 BL a0 a1 a2 a3 a12 HB2 LD
 cases ok with
 | false =>
  go_wp2
  go_ret
  exact ⟨_, rfl, by rw [HN.out (by simp)]; exact Own.nil _ _, KB.out⟩
 | true =>
  have x0 := BB.out.cellD 0 _ HC.out.1
  have x1 := BB.out.cellD 1 _ HC.out.2.1
  go_wp2_with fail
  refine (N1.out _).mono ?_
  rintro e wb ⟨v1, rfl, o1, k1⟩
  obtain ⟨A1, cap1, rfl, bs1, -⟩ := o1.shape
  rw [lowL_len] at bs1 ⊢
  have BL := Lib.hid (k1.blk BB.out (fun h => h))
  have KW := Lib.hid (KB.out.trans k1 (T := None) (fun _ h => h) (fun _ _ h => h))
  have C1 := Lib.hid bs1
  have HM := Lib.hid (HBl.out.keeps k1 (fun _ _ _ _ _ h => h))
  have HT : Hid (w.heap.size + 1 ≤ wb.heap.size) := by have := k1.size; have := HS.out; show _ ≤ _; omega
  have N200 : n = 200 := by rw [← HLN.out]; exact midOk_len HOK.out
  have HQ2 := Lib.hid (HQ.out (by trivial))
  subst N200
  clear bs1 o1 k1 HBl KB BB x0 x1 HQ HN N1 HS HOK
  have CB : Hid (∀ w2, Keeps None wb w2 → w2.cell? ⟨w.heap.size, 2, none⟩ = some (.int .i64 (of : Int)) ∧ w2.cell? ⟨w.heap.size, 3, none⟩ = some (.int .i64 (dn : Int)) ∧ w2.cell? ⟨w.heap.size, 12, none⟩ = some (.slice A 200 cap)) := fun w2 k => ⟨(k.blk BL.out (fun h => h)).cellD 2 _ HC.out.2.2.1, (k.blk BL.out (fun h => h)).cellD 3 _ HC.out.2.2.2, (k.blk BL.out (fun h => h)).cellD 12 _ MID.out⟩
  have ARR : Hid (∀ w2, Keeps None wb w2 → Bs w2 (some ⟨w.heap.size, 4, none⟩) 8 8 k.id) := fun w2 kk => ⟨IL.out, Nat.le_refl _, by decide, (fun e => by cases e), IB.out, fun _ => ⟨w.heap.size, 4, rfl, by have := kk.size; have := HT.out; omega, fun i hi => (kk.blk BL.out (fun h => h)).cellD (4 + i) _ (ME.out i hi)⟩⟩
  have KR := Lib.hid (Keeps.refl None wb)
  go_wp2
  obtain ⟨mS, mh⟩ : ∃ S : World → Prop, ∀ w', S w' ↔ (w'.cell? ⟨w.heap.size, 2, none⟩ = some (.int .i64 (of : Int)) ∧ w'.cell? ⟨w.heap.size, 3, none⟩ = some (.int .i64 (dn : Int)) ∧ w'.cell? ⟨w.heap.size, 12, none⟩ = some (.slice A 200 cap)) := ⟨_, fun _ => Iff.rfl⟩
  have mk0 : ∀ x : Memb mS, x.at_.cell? ⟨w.heap.size, 2, none⟩ = some (.int .i64 (of : Int)) := fun x => ((mh _).1 x.is).1
  have mk1 : ∀ x : Memb mS, x.at_.cell? ⟨w.heap.size, 3, none⟩ = some (.int .i64 (dn : Int)) := fun x => ((mh _).1 x.is).2.1
  have mk2 : ∀ x : Memb mS, x.at_.cell? ⟨w.heap.size, 12, none⟩ = some (.slice A 200 cap) := fun x => ((mh _).1 x.is).2.2
  have mn : Nonempty (Memb mS) := ⟨⟨(wb).drew, (mh _).2 ⟨(CB.out _ KR.out).1, (CB.out _ KR.out).2.1, (CB.out _ KR.out).2.2⟩⟩⟩
  have mH := Lib.hid mh
  clear mh
  refine wp_region_mix [4, 8, 13, 14] (InS mS) (by kernel_rfl) (by kernel_rfl) (InS.mk ((mH.out _).2 ⟨(CB.out _ KR.out).1, (CB.out _ KR.out).2.1, (CB.out _ KR.out).2.2⟩)) ?_
  refine wpMix_seg 4 (by kernel_rfl) (by decide) ?_
  simp only [tds]
  repeat (go_big_quiet_step (fail))
  refine wpQuiet_nil ?_
  refine wpMix_eff (by kernel_rfl) ?_
  go_wp2_with fail
  refine (N2.out _).mono ?_
  rintro e w2 ⟨v2, rfl, o2, k2⟩
  obtain ⟨A2, cap2, rfl, bs2, -⟩ := o2.shape
  rw [lowL_len] at bs2 ⊢
  have K2 := Lib.hid k2
  have X2 := Lib.hid (KR.out.drew.trans k2 (T := None) (fun _ h => h) (fun _ _ h => h))
  have C2 := Lib.hid bs2
  clear o2 k2 bs2
  go_wp2
  refine MixK.on (InS.mk ((mH.out _).2 (⟨(CB.out _ X2.out).1, (CB.out _ X2.out).2.1, (CB.out _ X2.out).2.2⟩))) ?_
  refine wpMix_seg 3 (by kernel_rfl) (by decide) ?_
  simp only [tds]
  repeat (go_big_quiet_step (fail))
  refine wpQuiet_nil ?_
  refine wpMix_eff (by kernel_rfl) ?_
  go_wp2_with fail
  refine (N3.out _).mono ?_
  rintro e w3 ⟨v3, rfl, o3, k3⟩
  obtain ⟨A3, cap3, rfl, bs3, -⟩ := o3.shape
  rw [lowL_len] at bs3 ⊢
  have K3 := Lib.hid k3
  have X3 := Lib.hid (X2.out.trans k3 (T := None) (fun _ h => h) (fun _ _ h => h))
  have C3 := Lib.hid bs3
  clear o3 k3 bs3
  go_wp2
  refine MixK.on (InS.mk ((mH.out _).2 (⟨(CB.out _ X3.out).1, (CB.out _ X3.out).2.1, (CB.out _ X3.out).2.2⟩))) ?_
  refine wpMix_seg 4 (by kernel_rfl) (by decide) ?_
  simp only [tds]
  repeat (go_big_quiet_step (fail))
  refine wpQuiet_nil ?_
  refine wpMix_eff (by kernel_rfl) ?_
  go_wp2
  refine MixK.on (InS.mk ((mH.out _).2 (⟨(CB.out _ (X3.out.alloc _)).1, (CB.out _ (X3.out.alloc _)).2.1, (CB.out _ (X3.out.alloc _)).2.2⟩))) ?_
  refine wpMix_eff (by kernel_rfl) ?_
  have PB := Lib.hid (Blk.new w3 [.slice A1 8 cap1, .slice A2 8 cap2, .slice A3 8 cap3, .slice (some ⟨w.heap.size, 4, none⟩) 8 8, .slice A 200 cap] 37)
  have X5 := Lib.hid (X3.out.alloc (.cells #[.slice A1 8 cap1, .slice A2 8 cap2, .slice A3 8 cap3, .slice (some ⟨w.heap.size, 4, none⟩) 8 8, .slice A 200 cap] 37))
  have K5 := Lib.hid ((Keeps.refl None w3).alloc (.cells #[.slice A1 8 cap1, .slice A2 8 cap2, .slice A3 8 cap3, .slice (some ⟨w.heap.size, 4, none⟩) 8 8, .slice A 200 cap] 37))
  go_wp2_with fail
  refine (concat5 ⟨A1, 8, cap1, lowL 8 (sl + 256 * bl)⟩ ⟨A2, 8, cap2, lowL 8 of⟩ ⟨A3, 8, cap3, lowL 8 dn⟩ ⟨some ⟨w.heap.size, 4, none⟩, 8, 8, k.id⟩ ⟨A, 200, cap, k.mid⟩ w3.heap.size 37 _ PB.out (C1.out.keeps X5.out (fun _ _ _ _ _ h => h)) ((C2.out.keeps K3.out (fun _ _ _ _ _ h => h)).keeps K5.out (fun _ _ _ _ _ h => h)) (C3.out.keeps K5.out (fun _ _ _ _ _ h => h)) (ARR.out _ X5.out) (HM.out.keeps X5.out (fun _ _ _ _ _ h => h)) (by simp) (by simp)).mono ?_
  rintro e w6 ⟨v6, rfl, o6, k6⟩
  have O6 : Hid (Own w6 w.heap.size v6 (chkL k)) := by (rw [HQ2.out]; exact o6.lower (by have h1 := X5.out.size; have h2 := HT.out; omega))
  have X6 := Lib.hid (X5.out.trans k6 (T := None) (fun _ h => h) (fun _ _ h => h))
  have K6 := Lib.hid (KW.out.trans X6.out (T := None) (fun _ h => h) (fun _ _ h => h))
  clear o6 k6
  go_wp2
  refine MixK.on (InS.mk ((mH.out _).2 (⟨(CB.out _ X6.out).1, (CB.out _ X6.out).2.1, (CB.out _ X6.out).2.2⟩))) ?_
  refine wpMix_seg 1 (by kernel_rfl) (by decide) ?_
  simp only [tds]
  repeat (go_big_quiet_step (fail))
  refine wpQuiet_nil ?_
  refine wpMix_nil ?_
  clear mk0 mk1 mk2 mn mH
  go_wp2
  go_ret
  exact ⟨_, rfl, O6.out, K6.out⟩
open Go.RowKit
theorem splice_cons {α : Type} (cs : List α) (o : Nat) (v : α) (r : List α) (h : o + (r.length + 1) ≤ cs.length) : splice (cs.set o v) (o + 1) r = splice cs o (v :: r) := by
 simp only [splice]
 have h1 : (cs.set o v).take (o + 1) = cs.take o ++ [v] := by
  rw [List.take_add_one, List.getElem?_set_self (by omega)]
  simp [List.take_set]
  rw [List.set_eq_of_length_le (by rw [List.length_take]; omega)]
 have h2 : (cs.set o v).drop (o + 1 + r.length) = cs.drop (o + (r.length + 1)) := by
  rw [List.drop_set_of_lt (by omega), Nat.add_assoc, Nat.add_comm 1]
 rw [h1, h2]
 simp
theorem Blk.setCells {b : Nat} {T : TypeId} : ∀ (ds : List Value) (cs : List Value) (o : Nat) (w : World), Blk w b cs T → o + ds.length ≤ cs.length → Blk (w.setCells b o ds) b (splice cs o ds) T
  | [], cs, o, w, h, _ => by rw [splice_nil]; exact h
  | v :: r, cs, o, w, h, hl => by
    rw [← splice_cons cs o v r (by simpa using hl)]
    exact Blk.setCells r (cs.set o v) (o + 1) _ (h.set o v) (by rw [List.length_set]; simp at hl; omega)
theorem keeps_setCells {b : Nat} : ∀ (ds : List Value) (o : Nat) (w : World), Keeps (fun k => k = b) w (w.setCells b o ds)
  | [], _, w => Keeps.refl _ _
  | v :: r, o, w => ((Keeps.refl (fun k => k = b) w).setCell ⟨b, o, none⟩ v (fun _ => rfl)).trans (keeps_setCells r (o + 1) _) (fun _ h => h) (fun _ _ h => h)
theorem blk_range {w : World} {b o : Nat} {cs ds : List Value} {T : TypeId} (h : Blk w b cs T) (hd : ∀ j v, ds[j]? = some v → cs[o + j]? = some v) : w.rangeAt b o ds := fun j v hv => h.cellD (o + j) v (hd j v hv)
theorem blk_there {w : World} {b o n : Nat} {cs : List Value} {T : TypeId} (h : Blk w b cs T) (hn : o + n ≤ cs.length) : w.there b o n := fun j hj => ⟨by rw [h.cell, List.getElem?_eq_getElem (by omega)]; rfl, h.frozen _⟩
section
variable {ops : Array Oper} {rest : List Oper} {op : Oper} {a : Act} {w : World} {Q : Exit → Act → World → Prop}
theorem wpList_load_blk {b o : Nat} {cs ds : List Value} {T ty : TypeId} {d : TypeDesc} {x : Operand} (h : Blk w b cs T) (hd : ∀ j v, ds[j]? = some v → cs[o + j]? = some v) (hgd : op.guard = none) (ho : op.op = .load ty x) (hx : a.eval x = .pointer (some ⟨b, o, none⟩))
    (hu : (Tryz.prog).underlying ty = some d) (hr : d.isRow = true) (hi : ((Tryz.prog).info? ty).map (·.size) = some ds.length) (hn : wpList Tryz.prog ops Q rest (a.put op.dst (.agg ds.toArray)) w) : wpList Tryz.prog ops Q (op :: rest) a w :=
  wpList_load_mid hgd ty x ho b o hx ds d (blk_range h hd) hu hr hi hn
theorem wpList_store_blk {b o : Nat} {cs ds : List Value} {T ty : TypeId} {x y : Operand} (h : Blk w b cs T) (hl : o + ds.length ≤ cs.length) (h1 : ∀ v ∈ ds, v.oneCell' = true) (hgd : op.guard = none) (ho : op.op = .store ty x y) (hx : a.eval x = .pointer (some ⟨b, o, none⟩)) (hy : a.eval y = .agg ds.toArray)
    (hi : ((Tryz.prog).info? ty).map (·.size) = some ds.length) (hn : ∀ w', Blk w' b (splice cs o ds) T → Keeps (fun k => k = b) w w' → wpList Tryz.prog ops Q rest (a.put op.dst undef) w') : wpList Tryz.prog ops Q (op :: rest) a w :=
  wpList_store_mid hgd ty x y ho b o ds.toArray hx hy (by simpa using blk_there h hl) (by simpa using hi) (all_oneCell_toArray h1) (hn _ (Blk.setCells ds cs o w h hl) (keeps_setCells ds o w))
end
theorem splice_all {α : Type} {cs ds : List α} (h : cs.length = ds.length) : splice cs 0 ds = ds := by simp [splice, h]
theorem tl173 (P : Prop) (h : P := by
 refine ⟨u, fun w hw => ?_, by rw [hd, ha]; exact hk⟩
 obtain ⟨y, rfl⟩ := hw
 have e : (execOp a.eval o).run Tryz.prog y.at_ = .ok (.value u) y.at_ := by
  unfold execOp
  rw [h]
  simp only [Sem.run_bind, Sem.run_pure]
  rw [he, hm y]; rfl
 unfold Oper.quietAt
 rw [e]
 exact ⟨rfl, rfl⟩) : P := h
theorem quiet_load {S : World → Prop} {a a' : Act} {o : Oper} {K : Act → Prop} {t : TypeId} {x : Operand} {v u : Value} {d : Nat}
    (hm : ∀ x : Memb S, (Instr.loadAt t v).run Tryz.prog x.at_ = .ok u x.at_) (h : o.op = .load t x) (hd : o.dst = some d) (he : a.eval x = v) (ha : a.put (some d) u = a') (hk : K a') : o.quiet Tryz.prog a (InS S) K := by
 exact tl173 _
theorem quiet_arr {S : World → Prop} {a a' : Act} {o : Oper} {K : Act → Prop} {t : TypeId} {x : Operand} {v u : Value} {d : Nat}
    (hm : ∀ x : Memb S, (Instr.arrayAt t v).run Tryz.prog x.at_ = .ok u x.at_) (h : o.op = .sliceToArrayPointer t x) (hd : o.dst = some d) (he : a.eval x = v) (ha : a.put (some d) u = a') (hk : K a') : o.quiet Tryz.prog a (InS S) K := by
 exact tl173 _
theorem fold_sets (off : Nat) : ∀ (ds : List Value) (n : Nat) (cs : Array Value), (off + n) + ds.length ≤ cs.size → ((ds.zipIdx n).foldl (fun cs (x : Value × Nat) => cs.setIfInBounds (off + x.2) x.1) cs).toList = splice cs.toList (off + n) ds
  | [], n, cs, _ => by simp [splice_nil]
  | v :: ds, n, cs, h => by
    simp only [List.length_cons] at h
    rw [List.zipIdx_cons, List.foldl_cons, fold_sets off ds (n + 1) _ (by simp; omega)]
    simp only [Array.toList_setIfInBounds]
    rw [show off + (n + 1) = off + n + 1 by omega]
    exact splice_cons cs.toList (off + n) v ds (by simp; omega)
theorem fill_splice {place : Nat → Option (Nat × Nat)} {cs : List Value} {i off size : Nat} {v : Value} {ds : List Value} {rest : List (Nat × Value)} (hp : place i = some (off, size)) (hv : v.cells = ds.toArray) (hs : ds.length = size) (hl : off + size ≤ cs.length) :
    Instr.fill place cs.toArray ((i, v) :: rest) = Instr.fill place (splice cs off ds).toArray rest := by
 conv => lhs; unfold Instr.fill
 rw [hp]
 simp only [hv, List.size_toArray]
 rw [if_neg (by simp; omega)]
 have h := fold_sets off ds 0 cs.toArray (by simp; omega)
 congr 1
 apply Array.ext'
 rw [Nat.add_zero] at h
 rw [← h]
 rw [← Array.toList_zipIdx]
 simp
theorem quiet_build {S : World → Prop} {a a' : Act} {o : Oper} {K : Act → Prop} {t : TypeId} {ps : Array (Nat × Operand)} {vs : Array (Nat × Value)} {cells : Array Value} {d : Nat}
    (hm : (Tryz.prog).built t vs.toList = some cells) (h : o.op = .build t ps) (hd : o.dst = some d) (he : (ps.map fun (i, x) => (i, a.eval x)) = vs) (ha : a.put (some d) (.agg cells) = a') (hk : K a') : o.quiet Tryz.prog a (InS S) K := by
 refine ⟨.agg cells, fun w _ => ?_, by rw [hd, ha]; exact hk⟩
 have e : (execOp a.eval o).run Tryz.prog w = .ok (.value (.agg cells)) w := by
  unfold execOp
  rw [h]
  simp only [Sem.run_bind, Sem.run_pure]
  rw [he, run_build w t vs cells hm]; rfl
 unfold Oper.quietAt
 rw [e]
 exact ⟨rfl, rfl⟩
theorem built_com0 (parts : List (Nat × Value)) : (Tryz.prog).built 41 parts = Instr.fill (fun x => [(0, 1), (1, 1), (2, 1), (3, 1), (4, 64)].toArray[x]?) com0.cs.toArray parts := by kernel_rfl
theorem built_com (c : Com) (h : c.me.length = 64) : (Tryz.prog).built 41 [(0, .int .i64 c.slot), (1, .int .u64 (c.ver : Int)), (2, .int .u64 (c.fl : Int)), (3, .int .i64 c.len), (4, .agg (c.me.map (.int .u8)).toArray)] = some c.cs.toArray := by
 rw [built_com0]
 have e : com0.cs = .int .i64 0 :: .int .u64 0 :: .int .u64 0 :: .int .i64 0 :: List.replicate 64 (.int .u8 0) := rfl
 rw [e, fill_splice (off := 0) (size := 1) (ds := [.int .i64 c.slot]) rfl rfl rfl (by simp), fill_splice (off := 1) (size := 1) (ds := [.int .u64 (c.ver : Int)]) rfl rfl rfl (by simp [splice]), fill_splice (off := 2) (size := 1) (ds := [.int .u64 (c.fl : Int)]) rfl rfl rfl (by simp [splice]),
  fill_splice (off := 3) (size := 1) (ds := [.int .i64 c.len]) rfl rfl rfl (by simp [splice]), fill_splice (off := 4) (size := 64) (ds := c.me.map (.int .u8)) rfl rfl (by simp [h]) (by simp [splice])]
 unfold Instr.fill
 congr 2
 simp [splice, Com.cs, h]
theorem run_arr {t e : TypeId} {n : Nat} {a : Option Addr} {len cap : Nat} (hu : (Tryz.prog).underlying t = some (.array n e)) (hl : n ≤ len) (w : World) : (Instr.arrayAt t (.slice a len cap)).run Tryz.prog w = .ok (.pointer a) w := by
 simp [Instr.arrayAt, Sem.run_bind, run_underlying hu, Nat.not_lt.2 hl]
theorem com_size : (Tryz.prog.info? 41).map (·.size) = some 68 := by kernel_rfl
theorem a64_size : (Tryz.prog.info? 39).map (·.size) = some 64 := by kernel_rfl
theorem Com.cs_one (c : Com) : ∀ v ∈ c.cs, v.oneCell' = true := by
 intro v hv
 simp only [Com.cs, List.mem_cons, List.mem_map] at hv
 rcases hv with rfl | rfl | rfl | rfl | ⟨z, -, rfl⟩ <;> rfl
theorem cell_res {fn : Func} {ty : TypeId} {d : TypeDesc} {p u : Tmp} (hr : fn.results = #[.cell p ty, .tmp u]) (tmps : Array Value) {w : World} {g : Nat} {cs : List Value} {T : TypeId} {v : Value} (h : Blk w g cs T)
    (hu : (Tryz.prog).underlying ty = some d) (hd : d.isRow = true) (hi : ((Tryz.prog).info? ty).map (·.size) = some cs.length) (h2 : tmps.getD p undef = .pointer (some ⟨g, 0, none⟩)) (h3 : tmps.getD u undef = v) :
    (results fn tmps).run Tryz.prog w = .ok (.tuple #[.agg cs.toArray, v]) w := by
 rw [results_cell_tmp hr, h2, h3]
 have e : (asAddr (.pointer (some ⟨g, 0, none⟩))).run Tryz.prog w = .ok ⟨g, 0, none⟩ w := rfl
 rw [e]
 simp only [Result.andThen]
 rw [run_loadVar_mid w g 0 ty cs d (blk_range h (fun j v hv => by rw [Nat.zero_add]; exact hv)) hu hd hi]
theorem com_zero : Tryz.zeroCells41 = com0.cs.toArray := by kernel_rfl
theorem tl174 (P : Prop) (h : P := by
 have NW := Lib.hid (Blk.new w com0.cs 41)
 have KW : Hid (Keeps None w (w.alloc (.cells com0.cs.toArray 41))) := (Keeps.refl None w).alloc _
 rw [← com_zero] at NW KW
 go_wp2_with (refine wpList_store_blk (b := w.heap.size) (o := 0) (ds := com0.cs) NW.out (by decide) (Com.cs_one _) rfl rfl rfl (by rw [← com_zero]; rfl) com_size ?_)
 intro w' hb hk
 rw [splice_all rfl] at hb
 have HB := Lib.hid hb
 have HK := Lib.hid (KW.out.trans hk (T := None) (fun _ h => h) (fun b hb e => absurd e (by omega)))
 clear hb hk NW KW
 go_wp2
 refine bodyPost_ret (cell_res rfl _ HB.out Tryz.underlying41 rfl com_size rfl rfl) rfl ?_
 exact ⟨by rw [GN.out]; rfl, HK.out⟩) : P := h
theorem tl176 (P : Prop) (h : P := by
 rw [decide_eq_true hq]
 rw [if_pos hq] at GC
 clear EQ
 go_wp2_with (first | (refine wpList_load_blk (b := wb.heap.size) (o := 0) (ds := C.cs) N4.out (fun j v hv => by rw [Nat.zero_add]; exact hv) rfl rfl rfl Tryz.underlying41 rfl (by rw [CL.out]; exact com_size) ?_) | (refine wpList_store_blk (b := w.heap.size) (o := 0) (ds := C.cs) R4.out (by rw [CL.out]; decide) (Com.cs_one _) rfl rfl rfl rfl (by rw [CL.out]; exact com_size) ?_))
 intro w6 b6 k6
 rw [splice_all (by rw [CL.out]; rfl)] at b6
 have B6 := Lib.hid b6
 have K6 := Lib.hid ((KB.out.trans K4.out (T := None) (fun _ h => h) (fun _ _ h => h)).trans k6 (T := None) (fun _ h => h) (fun b hb e => absurd e (by omega)))
 clear b6 k6 N4 R4 K4
 go_wp2
 refine bodyPost_ret (cell_res rfl _ B6.out Tryz.underlying41 rfl (by rw [CL.out]; exact com_size) rfl rfl) rfl ?_
 exact ⟨by rw [GC.out]; rfl, K6.out⟩) : P := h
theorem tl177 (P : Prop) (h : P := by
 rw [decide_eq_false hq]
 rw [if_neg hq] at GC
 clear EQ
 go_wp2_with (refine wpList_store_blk (b := w.heap.size) (o := 0) (ds := com0.cs) R4.out (by decide) (Com.cs_one _) rfl rfl rfl (by rw [← com_zero]; rfl) com_size ?_)
 intro w6 b6 k6
 rw [splice_all rfl] at b6
 have B6 := Lib.hid b6
 have K6 := Lib.hid ((KB.out.trans K4.out (T := None) (fun _ h => h) (fun _ _ h => h)).trans k6 (T := None) (fun _ h => h) (fun b hb e => absurd e (by omega)))
 clear b6 k6 N4 R4 K4
 go_wp2
 refine bodyPost_ret (cell_res rfl _ B6.out Tryz.underlying41 rfl com_size rfl rfl) rfl ?_
 exact ⟨by rw [GC.out]; rfl, K6.out⟩) : P := h
set_option maxRecDepth 100000 in
theorem tl175 (P : Prop) (h : P := by
 refine wpMix_eff (by kernel_rfl) ?_
 go_wp2_with (refine wpList_store_blk (b := wb.heap.size) (o := 0) (ds := C.cs) NB.out (by rw [CL.out]; decide) (Com.cs_one _) rfl rfl rfl rfl (by rw [CL.out]; exact com_size) ?_)
 intro w3 b3 k3
 rw [splice_all (by rw [CL.out]; rfl)] at b3
 have N3 := Lib.hid b3
 have K3 : Hid (Keeps None wb w3) := KC.out.trans k3 (fun _ h => h) (fun b hb e => absurd e (by omega))
 have R3 : Hid (Blk w3 w.heap.size com0.cs 41) := K3.out.blk RB.out (fun h => h)
 clear b3 k3 NB KC
 go_wp2
 refine MixK.on (InS.mk ((mH.out _).2 (⟨(CB.out _ K3.out).1, AR.out _, (CB.out _ K3.out).2.1⟩))) ?_
 refine wpMix_nil ?_
 refine wpPs_nil ?_
 clear mk0 mk1 mk2 mn mH
 go_wp2_with (refine wpList_load_blk (b := wb.heap.size) (o := 0) (ds := C.cs) N3.out (fun j v hv => by rw [Nat.zero_add]; exact hv) rfl rfl rfl Tryz.underlying41 rfl (by rw [CL.out]; exact com_size) ?_)
 go_wp2_with fail
 refine (PUT.out _).mono ?_
 rintro e w4 ⟨v4, rfl, o4, k4⟩
 obtain ⟨A4, c4, rfl, bs4, -⟩ := o4.shape
 have K4 := Lib.hid (K3.out.trans k4 (T := None) (fun _ h => h) (fun _ _ h => h))
 have N4 := Lib.hid (k4.blk N3.out (fun h => h))
 have R4 := Lib.hid (k4.blk R3.out (fun h => h))
 have EQ := Lib.hid (bequal_any _ _ _ _ _ _ _ _ w4 bs4 (CB.out _ K4.out).2.2)
 clear o4 k4 bs4 K3 N3 R3
 go_wp2_with fail
 refine EQ.out.mono ?_
 rintro e w5 ⟨rfl, rfl⟩
 by_cases hq : comL C = zs
 ·exact tl176 _
 ·exact tl177 _) : P := h
set_option maxRecDepth 100000 in
theorem tl178 (P : Prop) (h : P := by
 refine MixK.on (InS.mk ((mH.out _).2 (⟨(CB.out _ KC.out).1, AR.out _, (CB.out _ KC.out).2.1⟩))) ?_
 refine wpMix_nil ?_
 refine wpPs_nil ?_
 refine wpT_leaf (ps := [(0, 4), (10, 8), (19, 1)]) (by kernel_rfl) ?_
 refine wpPs_cons ?_
 try simp only [tds, Nat.reduceSub]
 refine wpMix_seg 4 (by kernel_rfl) (by decide) ?_
 simp only [tds, Nat.reduceSub]
 repeat (first | go_big_quiet_step (fail) | (go_big_quiet_want; first | refine quiet_arr mk1 rfl rfl rfl aput ?_; go_big_quiet_on | refine quiet_load mk2 rfl rfl rfl aput ?_; go_big_quiet_on | refine quiet_build BU.out rfl rfl (by simp [Act.eval]) aput ?_; go_big_quiet_on))
 refine wpQuiet_nil ?_
 refine wpMix_nil ?_
 refine wpPs_cons ?_
 try simp only [tds, Nat.reduceSub]
 refine wpMix_seg 2 (by kernel_rfl) (by decide) ?_
 simp only [tds, Nat.reduceSub]
 repeat (first | go_big_quiet_step (fail) | (go_big_quiet_want; first | refine quiet_arr mk1 rfl rfl rfl aput ?_; go_big_quiet_on | refine quiet_load mk2 rfl rfl rfl aput ?_; go_big_quiet_on | refine quiet_build BU.out rfl rfl (by simp [Act.eval]) aput ?_; go_big_quiet_on))
 refine wpQuiet_nil ?_
 refine wpMix_eff (by kernel_rfl) ?_
 go_wp2_with fail
 refine (V3.out _ ((CB.out _ KC.out).2.2.drop (by decide))).mono ?_
 rintro e w' ⟨rfl, rfl⟩
 go_wp2
 refine MixK.on (InS.mk ((mH.out _).2 (⟨(CB.out _ KC.out).1, AR.out _, (CB.out _ KC.out).2.1⟩))) ?_
 refine wpMix_seg 5 (by kernel_rfl) (by decide) ?_
 simp only [tds, Nat.reduceSub]
 repeat (first | go_big_quiet_step (fail) | (go_big_quiet_want; first | refine quiet_arr mk1 rfl rfl rfl aput ?_; go_big_quiet_on | refine quiet_load mk2 rfl rfl rfl aput ?_; go_big_quiet_on | refine quiet_build BU.out rfl rfl (by simp [Act.eval]) aput ?_; go_big_quiet_on))
 refine wpQuiet_nil ?_
 refine wpMix_nil ?_
 refine wpPs_cons ?_
 try simp only [tds, Nat.reduceSub]
 exact tl175 _) : P := h
theorem tl180 (P : Prop) (h : P := by
 refine wpPs_cons ?_
 try simp only [tds, Nat.reduceSub]
 refine wpMix_seg 2 (by kernel_rfl) (by decide) ?_
 simp only [tds, Nat.reduceSub]
 repeat (first | go_big_quiet_step (fail) | (go_big_quiet_want; first | refine quiet_arr mk1 rfl rfl rfl aput ?_; go_big_quiet_on | refine quiet_load mk2 rfl rfl rfl aput ?_; go_big_quiet_on | refine quiet_build BU.out rfl rfl (by simp [Act.eval]) aput ?_; go_big_quiet_on))
 refine wpQuiet_nil ?_
 refine wpMix_eff (by kernel_rfl) ?_
 go_wp2_with fail
 refine (V2.out _ ((CB.out _ KC.out).2.2.drop (by decide))).mono ?_
 rintro e w' ⟨rfl, rfl⟩
 go_wp2
 exact tl178 _) : P := h
theorem tl179 (P : Prop) (h : P := by
 refine MixK.on (InS.mk ((mH.out _).2 (⟨(CB.out _ KC.out).1, AR.out _, (CB.out _ KC.out).2.1⟩))) ?_
 refine wpMix_nil ?_
 refine wpPs_nil ?_
 refine wpT_node1 (us := [(0, 4), (7, 11), (19, 1)]) [(7, 3)] [(0, 4), (10, 8), (19, 1)] (by kernel_rfl) ?_
 ·
  exact tl180 _) : P := h
set_option maxRecDepth 100000 in
set_option maxHeartbeats 6400000 in
theorem lggetc_any (A : Option Addr) (n cap : Nat) (zs : List Int) (w : World) (h : Bs w A n cap zs) :
    Calls Tryz.prog 68 #[.slice A n cap] w fun e w' => e = .returned (.tuple #[(getCom zs).1.v, .bool (getCom zs).2]) ∧ Keeps None w w' := by
 have hle := h.le
 have hmx := h.max
 by_cases hn : n = 96
 case neg =>
  have d1 : ((n : Int) != 96) = true := by simp; omega
  have GN : Hid (getCom zs = (com0, false)) := if_neg (fun hh => hn (by rw [← h.len, hh.1]))
  clear h
  go_enter Tryz.func68, Tryz.ntmps68
  exact tl174 _
 subst hn
 have HZ := Lib.hid h
 have HL := Lib.hid h.len
 obtain ⟨gb, off, rfl, hgb, hcel⟩ := h.at_ (by decide)
 have z0 := hcel 0 (by decide)
 have a0 := h.byte (zs.getD 0 0) (getD_mem 0 (by rw [h.len]; decide))
 obtain ⟨c0, hc0⟩ : ∃ c : Nat, zs.getD 0 0 = c := ⟨(zs.getD 0 0).toNat, by omega⟩
 have HC0 := Lib.hid hc0
 rw [hc0] at z0 a0
 have V1 := Lib.hid (fun w h => lgvalue_any (some ⟨gb, off + 8, none⟩) (96 - 8) (cap - 8) (zs.drop 8) w h (by decide))
 have V2 := Lib.hid (fun w h => lgvalue_any (some ⟨gb, off + 16, none⟩) (96 - 16) (cap - 16) (zs.drop 16) w h (by decide))
 have V3 := Lib.hid (fun w h => lgsmall_any (some ⟨gb, off + 24, none⟩) (96 - 24) (cap - 24) (zs.drop 24) w h (by decide))
 rw [show numN ((zs.drop 8).take 8) = part8 zs 8 from rfl] at V1
 rw [show numN ((zs.drop 16).take 8) = part8 zs 16 from rfl] at V2
 rw [show numN ((zs.drop 24).take 8) = part8 zs 24 from rfl] at V3
 have LM : Hid (∀ w', Keeps None w w' → (Instr.loadAt 39 (.pointer (some ⟨gb, off + 32, none⟩))).run Tryz.prog w' = .ok (.agg ((zs.drop 32).map (.int .u8)).toArray) w') := fun w' k => by
  refine run_loadAt_mid w' gb (off + 32) 39 ((zs.drop 32).map (.int .u8)) _ (fun j v hv => ?_) Tryz.underlying39 rfl (by rw [List.length_map, List.length_drop, HL.out]; exact a64_size)
  rw [List.getElem?_map, List.getElem?_drop] at hv
  obtain ⟨z, hz, rfl⟩ := Option.map_eq_some_iff.1 hv
  have hj := (List.getElem?_eq_some_iff.1 hz).1
  rw [HL.out] at hj
  have := ((HZ.out.keeps k (fun _ _ _ _ _ h => h)).at_ (by decide))
  obtain ⟨b', o', e', -, hc⟩ := this
  cases e'
  rw [show off + 32 + j = off + (32 + j) by omega, hc (32 + j) hj, List.getD_eq_getElem?_getD, hz]
  rfl
 clear h hcel hc0
 go_enter Tryz.func68, Tryz.ntmps68
 go_wp2
 obtain ⟨wb, hwb⟩ : ∃ x, w.alloc (.cells Tryz.zeroCells41 41) = x := ⟨_, rfl⟩
 have RB : Hid (Blk wb w.heap.size com0.cs 41) := by rw [← hwb, com_zero]; exact Blk.new w com0.cs 41
 have KB : Hid (Keeps None w wb) := by rw [← hwb]; exact (Keeps.refl None w).alloc _
 rw [hwb]
 clear hwb
 rw [Nat.add_zero] at z0
 have CB : Hid (∀ w2, Keeps None wb w2 → w2.cell? ⟨gb, off, none⟩ = some (.int .u8 (c0 : Int)) ∧ (Instr.loadAt 39 (.pointer (some ⟨gb, off + 32, none⟩))).run Tryz.prog w2 = .ok (.agg ((zs.drop 32).map (.int .u8)).toArray) w2 ∧ Bs w2 (some ⟨gb, off, none⟩) 96 cap zs) := fun w2 k =>
  have k2 := KB.out.trans k (T := None) (fun _ h => h) (fun _ _ h => h)
  ⟨(k2.cell hgb (fun h => h)).trans z0, LM.out w2 k2, HZ.out.keeps k2 (fun _ _ _ _ _ h => h)⟩
 have KR := Lib.hid (Keeps.refl None wb)
 clear z0 LM
 have AR := Lib.hid (fun w => run_arr (a := some ⟨gb, off + 32, none⟩) (len := 64) (cap := cap - 32) Tryz.underlying39 (by decide) w)
 have KC : Hid (Keeps None wb wb.drew) := (Keeps.refl None wb).drew
 obtain ⟨C, hC⟩ : ∃ C : Com, (⟨(c0 : Int), part8 zs 8, part8 zs 16, smallN (part8 zs 24), zs.drop 32⟩ : Com) = C := ⟨_, rfl⟩
 have HCC : Hid (C = comP zs) := by show C = _; rw [← hC, ← HC0.out]; rfl
 have BU : Hid ((Tryz.prog).built 41 #[(0, .int .i64 (c0 : Int)), (1, .int .u64 (part8 zs 8 : Int)), (2, .int .u64 (part8 zs 16 : Int)), (3, .int .i64 (smallN (part8 zs 24))), (4, .agg ((zs.drop 32).map (.int .u8)).toArray)].toList = some C.cs.toArray) := by rw [← hC]; exact built_com ⟨(c0 : Int), part8 zs 8, part8 zs 16, smallN (part8 zs 24), zs.drop 32⟩ (by show (zs.drop 32).length = 64; rw [List.length_drop, HL.out])
 have CL : Hid (C.cs.length = 68) := by show _ = _; rw [HCC.out]; exact Com.cs_len (comP_ok HZ.out.byte HL.out)
 have PUT : Hid (∀ w, Calls Tryz.prog 34 #[.agg C.cs.toArray] w (Cloned w (comL C))) := fun w => lgputc_any C (by rw [HCC.out]; exact comP_ok HZ.out.byte HL.out) w
 have GC : Hid (getCom zs = if comL C = zs then (C, true) else (com0, false)) := by
  show getCom zs = _
  rw [HCC.out]
  unfold getCom
  rw [HL.out]
  simp
 clear hC
 obtain ⟨mS, mh⟩ : ∃ S : World → Prop, ∀ w', S w' ↔ (w'.cell? ⟨gb, off, none⟩ = some (.int .u8 (c0 : Int)) ∧ ((Instr.arrayAt 39 (.slice (some ⟨gb, off + 32, none⟩) 64 (cap - 32))).run Tryz.prog w' = .ok (.pointer (some ⟨gb, off + 32, none⟩)) w') ∧ ((Instr.loadAt 39 (.pointer (some ⟨gb, off + 32, none⟩))).run Tryz.prog w' = .ok (.agg ((zs.drop 32).map (.int .u8)).toArray) w')) := ⟨_, fun _ => Iff.rfl⟩
 have mk0 : ∀ x : Memb mS, x.at_.cell? ⟨gb, off, none⟩ = some (.int .u8 (c0 : Int)) := fun x => ((mh _).1 x.is).1
 have mk1 : ∀ x : Memb mS, (Instr.arrayAt 39 (.slice (some ⟨gb, off + 32, none⟩) 64 (cap - 32))).run Tryz.prog x.at_ = .ok (.pointer (some ⟨gb, off + 32, none⟩)) x.at_ := fun x => ((mh _).1 x.is).2.1
 have mk2 : ∀ x : Memb mS, (Instr.loadAt 39 (.pointer (some ⟨gb, off + 32, none⟩))).run Tryz.prog x.at_ = .ok (.agg ((zs.drop 32).map (.int .u8)).toArray) x.at_ := fun x => ((mh _).1 x.is).2.2
 have mn : Nonempty (Memb mS) := ⟨⟨(wb).drew, (mh _).2 ⟨(CB.out _ KR.out.drew).1, AR.out _, (CB.out _ KR.out.drew).2.1⟩⟩⟩
 have mH := Lib.hid mh
 clear mh
 refine wp_region_mixT [6, 9, 12, 18, 19] (InS mS) 3 20 (by kernel_rfl) (by kernel_rfl) (by kernel_rfl) (by kernel_rfl) (InS.mk ((mH.out _).2 ⟨(CB.out _ KR.out.drew).1, AR.out _, (CB.out _ KR.out.drew).2.1⟩)) ?_
 refine wpT_node2 (us := [(0, 20)]) [(4, 3)] [(0, 4), (7, 13)] [(18, 1)] [(0, 18), (19, 1)] (by kernel_rfl) ?_ ?_
 ·
  refine wpPs_cons ?_
  try simp only [tds, Nat.reduceSub]
  refine wpMix_seg 2 (by kernel_rfl) (by decide) ?_
  simp only [tds, Nat.reduceSub]
  repeat (first | go_big_quiet_step (fail) | (go_big_quiet_want; first | refine quiet_arr mk1 rfl rfl rfl aput ?_; go_big_quiet_on | refine quiet_load mk2 rfl rfl rfl aput ?_; go_big_quiet_on | refine quiet_build BU.out rfl rfl (by simp [Act.eval]) aput ?_; go_big_quiet_on))
  refine wpQuiet_nil ?_
  refine wpMix_eff (by kernel_rfl) ?_
  go_wp2_with fail
  refine (V1.out _ ((CB.out _ KC.out).2.2.drop (by decide))).mono ?_
  rintro e w' ⟨rfl, rfl⟩
  go_wp2
  refine MixK.on (InS.mk ((mH.out _).2 (⟨(CB.out _ KC.out).1, AR.out _, (CB.out _ KC.out).2.1⟩))) ?_
  refine wpMix_nil ?_
  refine wpPs_nil ?_
  refine wpT_node2 (us := [(0, 4), (7, 13)]) [(7, 3)] [(0, 4), (10, 10)] [(18, 1)] [(0, 4), (7, 11), (19, 1)] (by kernel_rfl) ?_ ?_
  ·
   refine wpPs_cons ?_
   try simp only [tds, Nat.reduceSub]
   refine wpMix_seg 2 (by kernel_rfl) (by decide) ?_
   simp only [tds, Nat.reduceSub]
   repeat (first | go_big_quiet_step (fail) | (go_big_quiet_want; first | refine quiet_arr mk1 rfl rfl rfl aput ?_; go_big_quiet_on | refine quiet_load mk2 rfl rfl rfl aput ?_; go_big_quiet_on | refine quiet_build BU.out rfl rfl (by simp [Act.eval]) aput ?_; go_big_quiet_on))
   refine wpQuiet_nil ?_
   refine wpMix_eff (by kernel_rfl) ?_
   go_wp2_with fail
   refine (V2.out _ ((CB.out _ KC.out).2.2.drop (by decide))).mono ?_
   rintro e w' ⟨rfl, rfl⟩
   go_wp2
   refine MixK.on (InS.mk ((mH.out _).2 (⟨(CB.out _ KC.out).1, AR.out _, (CB.out _ KC.out).2.1⟩))) ?_
   refine wpMix_nil ?_
   refine wpPs_nil ?_
   refine wpT_node2 (us := [(0, 4), (10, 10)]) [(10, 3)] [(0, 4), (13, 7)] [(18, 1)] [(0, 4), (10, 8), (19, 1)] (by kernel_rfl) ?_ ?_
   ·
    refine wpPs_cons ?_
    try simp only [tds, Nat.reduceSub]
    refine wpMix_seg 2 (by kernel_rfl) (by decide) ?_
    simp only [tds, Nat.reduceSub]
    repeat (first | go_big_quiet_step (fail) | (go_big_quiet_want; first | refine quiet_arr mk1 rfl rfl rfl aput ?_; go_big_quiet_on | refine quiet_load mk2 rfl rfl rfl aput ?_; go_big_quiet_on | refine quiet_build BU.out rfl rfl (by simp [Act.eval]) aput ?_; go_big_quiet_on))
    refine wpQuiet_nil ?_
    refine wpMix_eff (by kernel_rfl) ?_
    go_wp2_with fail
    refine (V3.out _ ((CB.out _ KC.out).2.2.drop (by decide))).mono ?_
    rintro e w' ⟨rfl, rfl⟩
    go_wp2
    refine MixK.on (InS.mk ((mH.out _).2 (⟨(CB.out _ KC.out).1, AR.out _, (CB.out _ KC.out).2.1⟩))) ?_
    refine wpMix_nil ?_
    refine wpPs_nil ?_
    refine wpT_leaf (ps := [(0, 4), (13, 7)]) (by kernel_rfl) ?_
    refine wpPs_cons ?_
    try simp only [tds, Nat.reduceSub]
    refine wpMix_seg 4 (by kernel_rfl) (by decide) ?_
    simp only [tds, Nat.reduceSub]
    repeat (first | go_big_quiet_step (fail) | (go_big_quiet_want; first | refine quiet_arr mk1 rfl rfl rfl aput ?_; go_big_quiet_on | refine quiet_load mk2 rfl rfl rfl aput ?_; go_big_quiet_on | refine quiet_build BU.out rfl rfl (by simp [Act.eval]) aput ?_; go_big_quiet_on))
    refine wpQuiet_nil ?_
    refine wpMix_nil ?_
    refine wpPs_cons ?_
    try simp only [tds, Nat.reduceSub]
    refine wpMix_seg 5 (by kernel_rfl) (by decide) ?_
    simp only [tds, Nat.reduceSub]
    repeat (first | go_big_quiet_step (fail) | (go_big_quiet_want; first | refine quiet_arr mk1 rfl rfl rfl aput ?_; go_big_quiet_on | refine quiet_load mk2 rfl rfl rfl aput ?_; go_big_quiet_on | refine quiet_build BU.out rfl rfl (by simp [Act.eval]) aput ?_; go_big_quiet_on))
    refine wpQuiet_nil ?_
    refine wpMix_eff (by kernel_rfl) ?_
    go_wp2
    first | (refine Exists.elim (⟨_, rfl⟩ : ∃ x, wb.drew.alloc (.cells Tryz.zeroCells41 41) = x) fun wy hwy => ?_; rw [hwy]) | (refine Exists.elim (⟨_, rfl⟩ : ∃ x, (wb.alloc (.cells Tryz.zeroCells41 41)).drew = x) fun wy hwy => ?_; rw [hwy])
    have NB : Hid (Blk wy wb.heap.size com0.cs 41) := by rw [← hwy, com_zero]; first | exact Blk.new wb.drew com0.cs 41 | exact (Blk.new wb com0.cs 41).drew
    have KD : Hid (Keeps None wb wy) := by rw [← hwy]; first | exact KC.out.alloc _ | exact ((Keeps.refl None wb).alloc _).drew
    clear KC hwy
    have KC := KD
    clear KD
    refine MixK.on (InS.mk ((mH.out _).2 (⟨(CB.out _ KC.out).1, AR.out _, (CB.out _ KC.out).2.1⟩))) ?_
    exact tl175 _
   ·
    refine wpPs_cons ?_
    try simp only [tds, Nat.reduceSub]
    refine wpMix_eff (by kernel_rfl) ?_
    go_wp2
    first | (refine Exists.elim (⟨_, rfl⟩ : ∃ x, wb.drew.alloc (.cells Tryz.zeroCells41 41) = x) fun wy hwy => ?_; rw [hwy]) | (refine Exists.elim (⟨_, rfl⟩ : ∃ x, (wb.alloc (.cells Tryz.zeroCells41 41)).drew = x) fun wy hwy => ?_; rw [hwy])
    have NB : Hid (Blk wy wb.heap.size com0.cs 41) := by rw [← hwy, com_zero]; first | exact Blk.new wb.drew com0.cs 41 | exact (Blk.new wb com0.cs 41).drew
    have KD : Hid (Keeps None wb wy) := by rw [← hwy]; first | exact KC.out.alloc _ | exact ((Keeps.refl None wb).alloc _).drew
    clear KC hwy
    have KC := KD
    clear KD
    exact tl178 _
  ·
   refine wpPs_cons ?_
   try simp only [tds, Nat.reduceSub]
   refine wpMix_eff (by kernel_rfl) ?_
   go_wp2
   first | (refine Exists.elim (⟨_, rfl⟩ : ∃ x, wb.drew.alloc (.cells Tryz.zeroCells41 41) = x) fun wy hwy => ?_; rw [hwy]) | (refine Exists.elim (⟨_, rfl⟩ : ∃ x, (wb.alloc (.cells Tryz.zeroCells41 41)).drew = x) fun wy hwy => ?_; rw [hwy])
   have NB : Hid (Blk wy wb.heap.size com0.cs 41) := by rw [← hwy, com_zero]; first | exact Blk.new wb.drew com0.cs 41 | exact (Blk.new wb com0.cs 41).drew
   have KD : Hid (Keeps None wb wy) := by rw [← hwy]; first | exact KC.out.alloc _ | exact ((Keeps.refl None wb).alloc _).drew
   clear KC hwy
   have KC := KD
   clear KD
   exact tl179 _
 ·
  refine wpPs_cons ?_
  try simp only [tds, Nat.reduceSub]
  refine wpMix_eff (by kernel_rfl) ?_
  go_wp2
  first | (refine Exists.elim (⟨_, rfl⟩ : ∃ x, wb.drew.alloc (.cells Tryz.zeroCells41 41) = x) fun wy hwy => ?_; rw [hwy]) | (refine Exists.elim (⟨_, rfl⟩ : ∃ x, (wb.alloc (.cells Tryz.zeroCells41 41)).drew = x) fun wy hwy => ?_; rw [hwy])
  have NB : Hid (Blk wy wb.heap.size com0.cs 41) := by rw [← hwy, com_zero]; first | exact Blk.new wb.drew com0.cs 41 | exact (Blk.new wb com0.cs 41).drew
  have KD : Hid (Keeps None wb wy) := by rw [← hwy]; first | exact KC.out.alloc _ | exact ((Keeps.refl None wb).alloc _).drew
  clear KC hwy
  have KC := KD
  clear KD
  refine MixK.on (InS.mk ((mH.out _).2 (⟨(CB.out _ KC.out).1, AR.out _, (CB.out _ KC.out).2.1⟩))) ?_
  refine wpMix_nil ?_
  refine wpPs_nil ?_
  refine wpT_node1 (us := [(0, 18), (19, 1)]) [(4, 3)] [(0, 4), (7, 11), (19, 1)] (by kernel_rfl) ?_
  ·
   refine wpPs_cons ?_
   try simp only [tds, Nat.reduceSub]
   refine wpMix_seg 2 (by kernel_rfl) (by decide) ?_
   simp only [tds, Nat.reduceSub]
   repeat (first | go_big_quiet_step (fail) | (go_big_quiet_want; first | refine quiet_arr mk1 rfl rfl rfl aput ?_; go_big_quiet_on | refine quiet_load mk2 rfl rfl rfl aput ?_; go_big_quiet_on | refine quiet_build BU.out rfl rfl (by simp [Act.eval]) aput ?_; go_big_quiet_on))
   refine wpQuiet_nil ?_
   refine wpMix_eff (by kernel_rfl) ?_
   go_wp2_with fail
   refine (V1.out _ ((CB.out _ KC.out).2.2.drop (by decide))).mono ?_
   rintro e w' ⟨rfl, rfl⟩
   go_wp2
   exact tl179 _
open Go.RowKit
structure ChkV (w : World) (P : Nat → Prop) (A : Option Addr) (n cap : Nat) (zs : List Int) : Prop where
  b : Bs w A n cap zs
  p : ∀ g off, 0 < n → A = some ⟨g, off, none⟩ → P g ∧ g < w.heap.size
theorem ChkV.nil (w : World) (P : Nat → Prop) : ChkV w P none 0 0 [] := ⟨⟨rfl, Nat.le_refl _, by decide, (fun _ => ⟨rfl, rfl⟩), (fun z hz => by cases hz), fun h => absurd h (Nat.lt_irrefl _)⟩, fun _ _ h => absurd h (Nat.lt_irrefl _)⟩
theorem ChkV.keeps {w w' : World} {P S : Nat → Prop} {A : Option Addr} {n cap : Nat} {zs : List Int} (h : ChkV w P A n cap zs) (k : Keeps S w w') (hS : ∀ b, P b → ¬ S b) : ChkV w' P A n cap zs :=
  ⟨h.b.keeps k (fun b off hn _ e hs => hS b (h.p b off hn e).1 hs), fun g off hn e => ⟨(h.p g off hn e).1, Nat.lt_of_lt_of_le (h.p g off hn e).2 k.size⟩⟩
theorem ChkV.later {w w' : World} {P : Nat → Prop} {A : Option Addr} {n cap : Nat} {zs : List Int} (h : ChkV w P A n cap zs) (k : Keeps None w w') : ChkV w' P A n cap zs := h.keeps k (fun _ _ h => h)
theorem ChkV.mono {w : World} {P Q : Nat → Prop} {A : Option Addr} {n cap : Nat} {zs : List Int} (h : ChkV w P A n cap zs) (hq : ∀ b, P b → Q b) : ChkV w Q A n cap zs := ⟨h.b, fun g off hn e => ⟨hq g (h.p g off hn e).1, (h.p g off hn e).2⟩⟩
theorem ChkV.lt {w : World} {P : Nat → Prop} {A : Option Addr} {n cap : Nat} {zs : List Int} (h : ChkV w P A n cap zs) : ChkV w (fun b => P b ∧ b < w.heap.size) A n cap zs := ⟨h.b, fun g off hn e => ⟨h.p g off hn e, (h.p g off hn e).2⟩⟩
theorem chkV_own {w : World} {B : Nat} {A : Option Addr} {n cap : Nat} {zs : List Int} (h : Own w B (.slice A n cap) zs) : ChkV w (fun b => B ≤ b) A n cap zs := by
 obtain ⟨A', cap', e, hb, hf⟩ := h.shape
 cases e
 refine ⟨hb, fun g off hn e => ⟨(hf g off e).1, ?_⟩⟩
 obtain ⟨b', off', e', hlt, -⟩ := hb.at_ hn
 rw [e] at e'
 cases e'
 exact hlt
theorem chk_size : (Tryz.prog.info? 44).map (·.size) = some 13 := by kernel_rfl
theorem a8_size : (Tryz.prog.info? 42).map (·.size) = some 8 := by kernel_rfl
theorem Chk.cs_one (k : Chk) (A : Option Addr) (n cap : Nat) : ∀ v ∈ k.cs A n cap, v.oneCell' = true := by
 intro v hv
 simp only [Chk.cs, List.mem_cons, List.mem_append, List.mem_map, List.not_mem_nil, or_false] at hv
 rcases hv with rfl | rfl | rfl | rfl | ⟨z, -, rfl⟩ | rfl <;> rfl
theorem chk_zero : (#[.int .i64 0, .int .i64 0, .int .i64 0, .int .i64 0, .int .u8 0, .int .u8 0, .int .u8 0, .int .u8 0, .int .u8 0, .int .u8 0, .int .u8 0, .int .u8 0, .slice none 0 0] : Array Value) = (chk0.cs none 0 0).toArray := rfl
theorem built_chk0 (parts : List (Nat × Value)) : (Tryz.prog).built 44 parts = Instr.fill (fun x => [(0, 1), (1, 1), (2, 1), (3, 1), (4, 8), (12, 1)].toArray[x]?) (chk0.cs none 0 0).toArray parts := by kernel_rfl
theorem built_chk (k : Chk) (h : k.id.length = 8) (A : Option Addr) (n cap : Nat) : (Tryz.prog).built 44 [(0, .int .i64 k.slot), (1, .int .i64 k.block), (2, .int .i64 k.off), (3, .int .i64 k.dn), (4, .agg (k.id.map (.int .u8)).toArray), (5, .slice A n cap)] = some (k.cs A n cap).toArray := by
 rw [built_chk0]
 have e : chk0.cs none 0 0 = .int .i64 0 :: .int .i64 0 :: .int .i64 0 :: .int .i64 0 :: (List.replicate 8 (.int .u8 0) ++ [.slice none 0 0]) := rfl
 rw [e, fill_splice (off := 0) (size := 1) (ds := [.int .i64 k.slot]) rfl rfl rfl (by simp), fill_splice (off := 1) (size := 1) (ds := [.int .i64 k.block]) rfl rfl rfl (by simp [splice]), fill_splice (off := 2) (size := 1) (ds := [.int .i64 k.off]) rfl rfl rfl (by simp [splice]),
  fill_splice (off := 3) (size := 1) (ds := [.int .i64 k.dn]) rfl rfl rfl (by simp [splice]), fill_splice (off := 4) (size := 8) (ds := k.id.map (.int .u8)) rfl rfl (by simp [h]) (by simp [splice]), fill_splice (off := 12) (size := 1) (ds := [.slice A n cap]) rfl rfl rfl (by simp [splice, h])]
 unfold Instr.fill
 congr 2
 simp [splice, Chk.cs, h]
def GotChk (w : World) (zs : List Int) (e : Ending) (w' : World) : Prop :=
  ∃ A n cap, e = .returned (.tuple #[(getChk zs).1.v A n cap, .bool (getChk zs).2]) ∧ ChkV w' (fun b => w.heap.size ≤ b) A n cap (getChk zs).1.mid ∧ Keeps None w w'
theorem tl181 (P : Prop) (h : P := by
 have NW := Lib.hid (Blk.new w (chk0.cs none 0 0) 44)
 have KW : Hid (Keeps None w (w.alloc (.cells (chk0.cs none 0 0).toArray 44))) := (Keeps.refl None w).alloc _
 rw [← chk_zero] at NW KW
 go_wp2_with (refine wpList_store_blk (b := w.heap.size) (o := 0) (ds := chk0.cs none 0 0) NW.out (by decide) (Chk.cs_one _ _ _ _) rfl rfl rfl (by rw [← chk_zero]; rfl) chk_size ?_)
 intro w' hb hk
 rw [splice_all rfl] at hb
 have HB := Lib.hid hb
 have HK := Lib.hid (KW.out.trans hk (T := None) (fun _ h => h) (fun b hb e => absurd e (by omega)))
 clear hb hk NW KW
 go_wp2
 refine bodyPost_ret (cell_res rfl _ HB.out Tryz.underlying44 rfl chk_size rfl rfl) rfl ?_
 exact ⟨none, 0, 0, by rw [GN.out]; rfl, by rw [GN.out]; exact ChkV.nil _ _, HK.out⟩) : P := h
theorem tl183 (P : Prop) (h : P := by
 rw [decide_eq_true hq]
 rw [if_pos hq] at GC
 clear EQ
 go_wp2_with (first | (refine wpList_load_blk (b := nb) (o := 0) (ds := C.cs A2 200 cap2) N4.out (fun j v hv => by rw [Nat.zero_add]; exact hv) rfl rfl rfl Tryz.underlying44 rfl (by rw [CL.out]; exact chk_size) ?_) | (refine wpList_store_blk (b := w.heap.size) (o := 0) (ds := C.cs A2 200 cap2) R4.out (by rw [CL.out]; decide) (Chk.cs_one _ _ _ _) rfl rfl rfl rfl (by rw [CL.out]; exact chk_size) ?_))
 intro w6 b6 k6
 rw [splice_all (by rw [CL.out]; rfl)] at b6
 have B6 := Lib.hid b6
 have M6 := Lib.hid (M4.out.keeps k6 (fun b hb e => by have h1 := hb.1; omega))
 have K6 := Lib.hid ((KB.out.trans K4.out (T := None) (fun _ h => h) (fun _ _ h => h)).trans k6 (T := None) (fun _ h => h) (fun b hb e => absurd e (by omega)))
 clear b6 k6 N4 R4 K4 M4
 go_wp2
 refine bodyPost_ret (cell_res rfl _ B6.out Tryz.underlying44 rfl (by rw [CL.out]; exact chk_size) rfl rfl) rfl ?_
 exact ⟨A2, 200, cap2, by rw [GC.out]; rfl, by rw [GC.out, HMID.out]; exact M6.out.mono (fun b hb => Nat.le_of_lt hb.1), K6.out⟩) : P := h
theorem tl184 (P : Prop) (h : P := by
 rw [decide_eq_false hq]
 rw [if_neg hq] at GC
 clear EQ
 go_wp2_with (refine wpList_store_blk (b := w.heap.size) (o := 0) (ds := chk0.cs none 0 0) R4.out (by decide) (Chk.cs_one _ _ _ _) rfl rfl rfl (by rw [← chk_zero]; rfl) chk_size ?_)
 intro w6 b6 k6
 rw [splice_all rfl] at b6
 have B6 := Lib.hid b6
 have K6 := Lib.hid ((KB.out.trans K4.out (T := None) (fun _ h => h) (fun _ _ h => h)).trans k6 (T := None) (fun _ h => h) (fun b hb e => absurd e (by omega)))
 clear b6 k6 N4 R4 K4 M4
 go_wp2
 refine bodyPost_ret (cell_res rfl _ B6.out Tryz.underlying44 rfl chk_size rfl rfl) rfl ?_
 exact ⟨none, 0, 0, by rw [GC.out]; rfl, by rw [GC.out]; exact ChkV.nil _ _, K6.out⟩) : P := h
set_option maxRecDepth 100000 in
theorem tl182 (P : Prop) (h : P := by
 refine wpMix_eff (by kernel_rfl) ?_
 go_wp2_with (refine wpList_store_blk (b := nb) (o := 0) (ds := C.cs A2 200 cap2) NB.out (by rw [CL.out]; decide) (Chk.cs_one _ _ _ _) rfl rfl rfl rfl (by rw [CL.out]; exact chk_size) ?_)
 intro w3 b3 k3
 rw [splice_all (by rw [CL.out]; rfl)] at b3
 have N3 := Lib.hid b3
 have K3 : Hid (Keeps None wb w3) := KC.out.trans k3 (fun _ h => h) (fun b hb e => absurd e (by have := NBL.out; omega))
 have R3 : Hid (Blk w3 w.heap.size (chk0.cs none 0 0) 44) := K3.out.blk RB.out (fun h => h)
 have M3 : Hid (ChkV w3 (fun b => w.heap.size < b ∧ ¬ b = nb) A2 200 cap2 (zs.drop 32)) := MV.out.keeps k3 (fun b hb e => hb.2 e)
 clear b3 k3 NB KC
 go_wp2
 refine MixK.on (InS.mk ((mH.out _).2 (⟨(CB.out _ K3.out).1.1, (CB.out _ K3.out).1.2, AR.out _, (CB.out _ K3.out).2.1⟩))) ?_
 refine wpMix_nil ?_
 refine wpPs_nil ?_
 clear mk0 mk1 mk2 mk3 mn mH
 go_wp2_with (refine wpList_load_blk (b := nb) (o := 0) (ds := C.cs A2 200 cap2) N3.out (fun j v hv => by rw [Nat.zero_add]; exact hv) rfl rfl rfl Tryz.underlying44 rfl (by rw [CL.out]; exact chk_size) ?_)
 go_wp2_with fail
 refine (PUT.out _ _ _ M3.out.b).mono ?_
 rintro e w4 ⟨v4, rfl, o4, k4⟩
 obtain ⟨A4, c4, rfl, bs4, -⟩ := o4.shape
 have K4 := Lib.hid (K3.out.trans k4 (T := None) (fun _ h => h) (fun _ _ h => h))
 have N4 := Lib.hid (k4.blk N3.out (fun h => h))
 have R4 := Lib.hid (k4.blk R3.out (fun h => h))
 have M4 := Lib.hid (M3.out.later k4)
 have EQ := Lib.hid (bequal_any _ _ _ _ _ _ _ _ w4 bs4 (CB.out _ K4.out).2.2)
 clear o4 k4 bs4 K3 N3 R3 M3
 go_wp2_with fail
 refine EQ.out.mono ?_
 rintro e w5 ⟨rfl, rfl⟩
 by_cases hq : chkL C = zs
 ·exact tl183 _
 ·exact tl184 _) : P := h
set_option maxRecDepth 100000 in
theorem tl185 (P : Prop) (h : P := by
 refine MixK.on (InS.mk ((mH.out _).2 (⟨(CB.out _ KC.out).1.1, (CB.out _ KC.out).1.2, AR.out _, (CB.out _ KC.out).2.1⟩))) ?_
 refine wpMix_nil ?_
 refine wpPs_nil ?_
 refine wpT_leaf (ps := [(0, 8), (14, 8), (23, 1)]) (by kernel_rfl) ?_
 refine wpPs_cons ?_
 try simp only [tds, Nat.reduceSub]
 refine wpMix_seg 8 (by kernel_rfl) (by decide) ?_
 simp only [tds, Nat.reduceSub]
 repeat (first | go_big_quiet_step (fail) | (go_big_quiet_want; first | refine quiet_arr mk2 rfl rfl rfl aput ?_; go_big_quiet_on | refine quiet_load mk3 rfl rfl rfl aput ?_; go_big_quiet_on | refine quiet_build (BU.out A2 200 cap2) rfl rfl (by simp [Act.eval]) aput ?_; go_big_quiet_on))
 refine wpQuiet_nil ?_
 refine wpMix_nil ?_
 refine wpPs_cons ?_
 try simp only [tds, Nat.reduceSub]
 refine wpMix_seg 6 (by kernel_rfl) (by decide) ?_
 simp only [tds, Nat.reduceSub]
 repeat (first | go_big_quiet_step (fail) | (go_big_quiet_want; first | refine quiet_arr mk2 rfl rfl rfl aput ?_; go_big_quiet_on | refine quiet_load mk3 rfl rfl rfl aput ?_; go_big_quiet_on | refine quiet_build (BU.out A2 200 cap2) rfl rfl (by simp [Act.eval]) aput ?_; go_big_quiet_on))
 refine wpQuiet_nil ?_
 refine wpMix_eff (by kernel_rfl) ?_
 go_wp2_with fail
 refine (CLN.out _ ((CB.out _ KC.out).2.2.drop (by decide))).mono ?_
 rintro e w2 ⟨v2, rfl, o2, kx⟩
 obtain ⟨A2, cap2, rfl, -, -⟩ := o2.shape
 rw [L200.out] at o2 ⊢
 have M0 := Lib.hid (chkV_own o2).lt
 try have NN := Lib.hid (kx.blk NB.out (fun h => h))
 try have MV : Hid (ChkV w2 (fun b => w.heap.size < b ∧ ¬ b = nb) A2 200 cap2 (zs.drop 32)) := M0.out.mono (fun b hb => by have h1 := NB.out.lt; have h2 := KC.out.size; exact ⟨by omega, by omega⟩)
 try clear NB
 try have NB := NN
 try clear NN
 have MW : Hid (ChkV w2 (fun b => w.heap.size < b ∧ b < w2.heap.size) A2 200 cap2 (zs.drop 32)) := M0.out.mono (fun b hb => by have h2 := KC.out.size; exact ⟨by omega, hb.2⟩)
 have KD := Lib.hid (KC.out.trans kx (T := None) (fun _ h => h) (fun _ _ h => h))
 clear KC kx o2 M0
 have KC := KD
 clear KD
 go_wp2
 refine MixK.on (InS.mk ((mH.out _).2 (⟨(CB.out _ KC.out).1.1, (CB.out _ KC.out).1.2, AR.out _, (CB.out _ KC.out).2.1⟩))) ?_
 refine wpMix_seg 1 (by kernel_rfl) (by decide) ?_
 simp only [tds, Nat.reduceSub]
 repeat (first | go_big_quiet_step (fail) | (go_big_quiet_want; first | refine quiet_arr mk2 rfl rfl rfl aput ?_; go_big_quiet_on | refine quiet_load mk3 rfl rfl rfl aput ?_; go_big_quiet_on | refine quiet_build (BU.out A2 200 cap2) rfl rfl (by simp [Act.eval]) aput ?_; go_big_quiet_on))
 refine wpQuiet_nil ?_
 refine wpMix_nil ?_
 refine wpPs_cons ?_
 try simp only [tds, Nat.reduceSub]
 exact tl182 _) : P := h
theorem tl187 (P : Prop) (h : P := by
 refine wpPs_cons ?_
 try simp only [tds, Nat.reduceSub]
 refine wpMix_seg 2 (by kernel_rfl) (by decide) ?_
 simp only [tds, Nat.reduceSub]
 repeat (first | go_big_quiet_step (fail) | (go_big_quiet_want; first | refine quiet_arr mk2 rfl rfl rfl aput ?_; go_big_quiet_on | refine quiet_load mk3 rfl rfl rfl aput ?_; go_big_quiet_on | refine quiet_build (BU.out A2 200 cap2) rfl rfl (by simp [Act.eval]) aput ?_; go_big_quiet_on))
 refine wpQuiet_nil ?_
 refine wpMix_eff (by kernel_rfl) ?_
 go_wp2_with fail
 refine (V2.out _ ((CB.out _ KC.out).2.2.drop (by decide))).mono ?_
 rintro e w' ⟨rfl, rfl⟩
 go_wp2
 exact tl185 _) : P := h
theorem tl186 (P : Prop) (h : P := by
 refine MixK.on (InS.mk ((mH.out _).2 (⟨(CB.out _ KC.out).1.1, (CB.out _ KC.out).1.2, AR.out _, (CB.out _ KC.out).2.1⟩))) ?_
 refine wpMix_nil ?_
 refine wpPs_nil ?_
 refine wpT_node1 (us := [(0, 8), (11, 11), (23, 1)]) [(11, 3)] [(0, 8), (14, 8), (23, 1)] (by kernel_rfl) ?_
 ·
  exact tl187 _) : P := h
set_option maxRecDepth 100000 in
set_option maxHeartbeats 6400000 in
theorem lggetk_any (A : Option Addr) (n cap : Nat) (zs : List Int) (w : World) (h : Bs w A n cap zs) : Calls Tryz.prog 69 #[.slice A n cap] w (GotChk w zs) := by
 have hle := h.le
 have hmx := h.max
 by_cases hn : n = 232
 case neg =>
  have d1 : ((n : Int) != 232) = true := by simp; omega
  have GN : Hid (getChk zs = (chk0, false)) := if_neg (fun hh => hn (by rw [← h.len, hh.1]))
  clear h
  go_enter Tryz.func69, Tryz.ntmps69
  exact tl181 _
 subst hn
 have HZ := Lib.hid h
 have HL := Lib.hid h.len
 obtain ⟨gb, off, rfl, hgb, hcel⟩ := h.at_ (by decide)
 have z0 := hcel 0 (by decide)
 have z1 := hcel 1 (by decide)
 have a0 := h.byte (zs.getD 0 0) (getD_mem 0 (by rw [h.len]; decide))
 have a1 := h.byte (zs.getD 1 0) (getD_mem 0 (by rw [h.len]; decide))
 obtain ⟨c0, hc0⟩ : ∃ c : Nat, zs.getD 0 0 = c := ⟨(zs.getD 0 0).toNat, by omega⟩
 obtain ⟨c1, hc1⟩ : ∃ c : Nat, zs.getD 1 0 = c := ⟨(zs.getD 1 0).toNat, by omega⟩
 have HC0 := Lib.hid hc0
 have HC1 := Lib.hid hc1
 rw [hc0] at z0 a0
 rw [hc1] at z1 a1
 have V1 := Lib.hid (fun w h => lgsmall_any (some ⟨gb, off + 8, none⟩) (232 - 8) (cap - 8) (zs.drop 8) w h (by decide))
 have V2 := Lib.hid (fun w h => lgsmall_any (some ⟨gb, off + 16, none⟩) (232 - 16) (cap - 16) (zs.drop 16) w h (by decide))
 rw [show numN ((zs.drop 8).take 8) = part8 zs 8 from rfl] at V1
 rw [show numN ((zs.drop 16).take 8) = part8 zs 16 from rfl] at V2
 have CLN := Lib.hid (fun w h => clone_any (some ⟨gb, off + 32, none⟩) (232 - 32) (cap - 32) (zs.drop 32) w h (by decide))
 have L200 : Hid ((zs.drop 32).length = 200) := by show _ = _; rw [List.length_drop, HL.out]
 have LM : Hid (∀ w', Keeps None w w' → (Instr.loadAt 42 (.pointer (some ⟨gb, off + 24, none⟩))).run Tryz.prog w' = .ok (.agg (((zs.drop 24).take 8).map (.int .u8)).toArray) w') := fun w' k => by
  refine run_loadAt_mid w' gb (off + 24) 42 (((zs.drop 24).take 8).map (.int .u8)) _ (fun j v hv => ?_) Tryz.underlying42 rfl (by rw [List.length_map, List.length_take, List.length_drop, HL.out]; exact a8_size)
  rw [List.getElem?_map, List.getElem?_take] at hv
  split at hv
  ·rw [List.getElem?_drop] at hv
   obtain ⟨z, hz, rfl⟩ := Option.map_eq_some_iff.1 hv
   have hj := (List.getElem?_eq_some_iff.1 hz).1
   rw [HL.out] at hj
   have := ((HZ.out.keeps k (fun _ _ _ _ _ h => h)).at_ (by decide))
   obtain ⟨b', o', e', -, hc⟩ := this
   cases e'
   rw [show off + 24 + j = off + (24 + j) by omega, hc (24 + j) hj, List.getD_eq_getElem?_getD, hz]
   rfl
  ·cases hv
 clear h hcel hc0 hc1
 go_enter Tryz.func69, Tryz.ntmps69
 go_wp2
 obtain ⟨wb, hwb⟩ : ∃ x, w.alloc (.cells #[.int .i64 0, .int .i64 0, .int .i64 0, .int .i64 0, .int .u8 0, .int .u8 0, .int .u8 0, .int .u8 0, .int .u8 0, .int .u8 0, .int .u8 0, .int .u8 0, .slice none 0 0] 44) = x := ⟨_, rfl⟩
 have RB : Hid (Blk wb w.heap.size (chk0.cs none 0 0) 44) := by rw [← hwb, chk_zero]; exact Blk.new w (chk0.cs none 0 0) 44
 have KB : Hid (Keeps None w wb) := by rw [← hwb]; exact (Keeps.refl None w).alloc _
 have SB : w.heap.size < wb.heap.size := RB.out.lt
 rw [hwb]
 clear hwb
 rw [Nat.add_zero] at z0
 have CB : Hid (∀ w2, Keeps None wb w2 → (w2.cell? ⟨gb, off, none⟩ = some (.int .u8 (c0 : Int)) ∧ w2.cell? ⟨gb, off + 1, none⟩ = some (.int .u8 (c1 : Int))) ∧ (Instr.loadAt 42 (.pointer (some ⟨gb, off + 24, none⟩))).run Tryz.prog w2 = .ok (.agg (((zs.drop 24).take 8).map (.int .u8)).toArray) w2 ∧ Bs w2 (some ⟨gb, off, none⟩) 232 cap zs) := fun w2 k =>
  have k2 := KB.out.trans k (T := None) (fun _ h => h) (fun _ _ h => h)
  ⟨⟨(k2.cell hgb (fun h => h)).trans z0, (k2.cell hgb (fun h => h)).trans z1⟩, LM.out w2 k2, HZ.out.keeps k2 (fun _ _ _ _ _ h => h)⟩
 have KR := Lib.hid (Keeps.refl None wb)
 clear z0 z1 LM
 have AR := Lib.hid (fun w => run_arr (a := some ⟨gb, off + 24, none⟩) (len := 208) (cap := cap - 24) Tryz.underlying42 (by decide) w)
 have KC : Hid (Keeps None wb wb.drew) := (Keeps.refl None wb).drew
 obtain ⟨C, hC⟩ : ∃ C : Chk, (⟨(c0 : Int), (c1 : Int), smallN (part8 zs 8), smallN (part8 zs 16), (zs.drop 24).take 8, zs.drop 32⟩ : Chk) = C := ⟨_, rfl⟩
 have HCC : Hid (C = chkP zs) := by show C = _; rw [← hC, ← HC0.out, ← HC1.out]; rfl
 have BU : Hid (∀ A n cap, (Tryz.prog).built 44 #[(0, .int .i64 (c0 : Int)), (1, .int .i64 (c1 : Int)), (2, .int .i64 (smallN (part8 zs 8))), (3, .int .i64 (smallN (part8 zs 16))), (4, .agg (((zs.drop 24).take 8).map (.int .u8)).toArray), (5, .slice A n cap)].toList = some (C.cs A n cap).toArray) := fun A n cap => by
  rw [← hC]
  exact built_chk ⟨(c0 : Int), (c1 : Int), smallN (part8 zs 8), smallN (part8 zs 16), (zs.drop 24).take 8, zs.drop 32⟩ (by show ((zs.drop 24).take 8).length = 8; rw [List.length_take, List.length_drop, HL.out]; rfl) A n cap
 have OKC : Hid C.ok := by show C.ok; rw [HCC.out]; exact chkP_ok HZ.out.byte HL.out
 have CL : Hid (∀ A n cap, (C.cs A n cap).length = 13) := fun A n cap => Chk.cs_len OKC.out A n cap
 have HMID : Hid (C.mid = zs.drop 32) := by show _ = _; rw [HCC.out]; rfl
 have PUT : Hid (∀ w A cap, Bs w A 200 cap (zs.drop 32) → Calls Tryz.prog 38 #[.agg (C.cs A 200 cap).toArray] w (Cloned w (chkL C))) := fun w A cap h => lgputk_any C OKC.out A 200 cap w (by rw [HMID.out]; exact h)
 have GC : Hid (getChk zs = if chkL C = zs then (C, true) else (chk0, false)) := by
  show getChk zs = _
  rw [HCC.out]
  unfold getChk
  rw [HL.out]
  simp
 clear hC
 obtain ⟨mS, mh⟩ : ∃ S : World → Prop, ∀ w', S w' ↔ (w'.cell? ⟨gb, off, none⟩ = some (.int .u8 (c0 : Int)) ∧ w'.cell? ⟨gb, off + 1, none⟩ = some (.int .u8 (c1 : Int)) ∧ ((Instr.arrayAt 42 (.slice (some ⟨gb, off + 24, none⟩) 208 (cap - 24))).run Tryz.prog w' = .ok (.pointer (some ⟨gb, off + 24, none⟩)) w') ∧ ((Instr.loadAt 42 (.pointer (some ⟨gb, off + 24, none⟩))).run Tryz.prog w' = .ok (.agg (((zs.drop 24).take 8).map (.int .u8)).toArray) w')) := ⟨_, fun _ => Iff.rfl⟩
 have mk0 : ∀ x : Memb mS, x.at_.cell? ⟨gb, off, none⟩ = some (.int .u8 (c0 : Int)) := fun x => ((mh _).1 x.is).1
 have mk1 : ∀ x : Memb mS, x.at_.cell? ⟨gb, off + 1, none⟩ = some (.int .u8 (c1 : Int)) := fun x => ((mh _).1 x.is).2.1
 have mk2 : ∀ x : Memb mS, (Instr.arrayAt 42 (.slice (some ⟨gb, off + 24, none⟩) 208 (cap - 24))).run Tryz.prog x.at_ = .ok (.pointer (some ⟨gb, off + 24, none⟩)) x.at_ := fun x => ((mh _).1 x.is).2.2.1
 have mk3 : ∀ x : Memb mS, (Instr.loadAt 42 (.pointer (some ⟨gb, off + 24, none⟩))).run Tryz.prog x.at_ = .ok (.agg (((zs.drop 24).take 8).map (.int .u8)).toArray) x.at_ := fun x => ((mh _).1 x.is).2.2.2
 have mn : Nonempty (Memb mS) := ⟨⟨(wb).drew, (mh _).2 ⟨(CB.out _ KR.out.drew).1.1, (CB.out _ KR.out.drew).1.2, AR.out _, (CB.out _ KR.out.drew).2.1⟩⟩⟩
 have mH := Lib.hid mh
 clear mh
 refine wp_region_mixT [10, 13, 20, 22, 23] (InS mS) 3 24 (by kernel_rfl) (by kernel_rfl) (by kernel_rfl) (by kernel_rfl) (InS.mk ((mH.out _).2 ⟨(CB.out _ KR.out.drew).1.1, (CB.out _ KR.out.drew).1.2, AR.out _, (CB.out _ KR.out.drew).2.1⟩)) ?_
 refine wpT_node2 (us := [(0, 24)]) [(8, 3)] [(0, 8), (11, 13)] [(22, 1)] [(0, 22), (23, 1)] (by kernel_rfl) ?_ ?_
 ·
  refine wpPs_cons ?_
  try simp only [tds, Nat.reduceSub]
  refine wpMix_seg 2 (by kernel_rfl) (by decide) ?_
  simp only [tds, Nat.reduceSub]
  repeat (first | go_big_quiet_step (fail) | (go_big_quiet_want; first | refine quiet_arr mk2 rfl rfl rfl aput ?_; go_big_quiet_on | refine quiet_load mk3 rfl rfl rfl aput ?_; go_big_quiet_on | refine quiet_build (BU.out A2 200 cap2) rfl rfl (by simp [Act.eval]) aput ?_; go_big_quiet_on))
  refine wpQuiet_nil ?_
  refine wpMix_eff (by kernel_rfl) ?_
  go_wp2_with fail
  refine (V1.out _ ((CB.out _ KC.out).2.2.drop (by decide))).mono ?_
  rintro e w' ⟨rfl, rfl⟩
  go_wp2
  refine MixK.on (InS.mk ((mH.out _).2 (⟨(CB.out _ KC.out).1.1, (CB.out _ KC.out).1.2, AR.out _, (CB.out _ KC.out).2.1⟩))) ?_
  refine wpMix_nil ?_
  refine wpPs_nil ?_
  refine wpT_node2 (us := [(0, 8), (11, 13)]) [(11, 3)] [(0, 8), (14, 10)] [(22, 1)] [(0, 8), (11, 11), (23, 1)] (by kernel_rfl) ?_ ?_
  ·
   refine wpPs_cons ?_
   try simp only [tds, Nat.reduceSub]
   refine wpMix_seg 2 (by kernel_rfl) (by decide) ?_
   simp only [tds, Nat.reduceSub]
   repeat (first | go_big_quiet_step (fail) | (go_big_quiet_want; first | refine quiet_arr mk2 rfl rfl rfl aput ?_; go_big_quiet_on | refine quiet_load mk3 rfl rfl rfl aput ?_; go_big_quiet_on | refine quiet_build (BU.out A2 200 cap2) rfl rfl (by simp [Act.eval]) aput ?_; go_big_quiet_on))
   refine wpQuiet_nil ?_
   refine wpMix_eff (by kernel_rfl) ?_
   go_wp2_with fail
   refine (V2.out _ ((CB.out _ KC.out).2.2.drop (by decide))).mono ?_
   rintro e w' ⟨rfl, rfl⟩
   go_wp2
   refine MixK.on (InS.mk ((mH.out _).2 (⟨(CB.out _ KC.out).1.1, (CB.out _ KC.out).1.2, AR.out _, (CB.out _ KC.out).2.1⟩))) ?_
   refine wpMix_nil ?_
   refine wpPs_nil ?_
   refine wpT_node2 (us := [(0, 8), (14, 10)]) [(18, 3)] [(0, 8), (14, 4), (21, 3)] [(22, 1)] [(0, 8), (14, 8), (23, 1)] (by kernel_rfl) ?_ ?_
   ·
    refine wpPs_cons ?_
    try simp only [tds, Nat.reduceSub]
    refine wpMix_seg 2 (by kernel_rfl) (by decide) ?_
    simp only [tds, Nat.reduceSub]
    repeat (first | go_big_quiet_step (fail) | (go_big_quiet_want; first | refine quiet_arr mk2 rfl rfl rfl aput ?_; go_big_quiet_on | refine quiet_load mk3 rfl rfl rfl aput ?_; go_big_quiet_on | refine quiet_build (BU.out A2 200 cap2) rfl rfl (by simp [Act.eval]) aput ?_; go_big_quiet_on))
    refine wpQuiet_nil ?_
    refine wpMix_eff (by kernel_rfl) ?_
    go_wp2_with fail
    refine (CLN.out _ ((CB.out _ KC.out).2.2.drop (by decide))).mono ?_
    rintro e w2 ⟨v2, rfl, o2, kx⟩
    obtain ⟨A2, cap2, rfl, -, -⟩ := o2.shape
    rw [L200.out] at o2 ⊢
    have M0 := Lib.hid (chkV_own o2).lt
    try have NN := Lib.hid (kx.blk NB.out (fun h => h))
    try have MV : Hid (ChkV w2 (fun b => w.heap.size < b ∧ ¬ b = nb) A2 200 cap2 (zs.drop 32)) := M0.out.mono (fun b hb => by have h1 := NB.out.lt; have h2 := KC.out.size; exact ⟨by omega, by omega⟩)
    try clear NB
    try have NB := NN
    try clear NN
    have MW : Hid (ChkV w2 (fun b => w.heap.size < b ∧ b < w2.heap.size) A2 200 cap2 (zs.drop 32)) := M0.out.mono (fun b hb => by have h2 := KC.out.size; exact ⟨by omega, hb.2⟩)
    have KD := Lib.hid (KC.out.trans kx (T := None) (fun _ h => h) (fun _ _ h => h))
    clear KC kx o2 M0
    have KC := KD
    clear KD
    go_wp2
    refine MixK.on (InS.mk ((mH.out _).2 (⟨(CB.out _ KC.out).1.1, (CB.out _ KC.out).1.2, AR.out _, (CB.out _ KC.out).2.1⟩))) ?_
    refine wpMix_nil ?_
    refine wpPs_nil ?_
    refine wpT_leaf (ps := [(0, 8), (14, 4), (21, 3)]) (by kernel_rfl) ?_
    refine wpPs_cons ?_
    try simp only [tds, Nat.reduceSub]
    refine wpMix_seg 8 (by kernel_rfl) (by decide) ?_
    simp only [tds, Nat.reduceSub]
    repeat (first | go_big_quiet_step (fail) | (go_big_quiet_want; first | refine quiet_arr mk2 rfl rfl rfl aput ?_; go_big_quiet_on | refine quiet_load mk3 rfl rfl rfl aput ?_; go_big_quiet_on | refine quiet_build (BU.out A2 200 cap2) rfl rfl (by simp [Act.eval]) aput ?_; go_big_quiet_on))
    refine wpQuiet_nil ?_
    refine wpMix_nil ?_
    refine wpPs_cons ?_
    try simp only [tds, Nat.reduceSub]
    refine wpMix_seg 4 (by kernel_rfl) (by decide) ?_
    simp only [tds, Nat.reduceSub]
    repeat (first | go_big_quiet_step (fail) | (go_big_quiet_want; first | refine quiet_arr mk2 rfl rfl rfl aput ?_; go_big_quiet_on | refine quiet_load mk3 rfl rfl rfl aput ?_; go_big_quiet_on | refine quiet_build (BU.out A2 200 cap2) rfl rfl (by simp [Act.eval]) aput ?_; go_big_quiet_on))
    refine wpQuiet_nil ?_
    refine wpMix_nil ?_
    refine wpPs_cons ?_
    try simp only [tds, Nat.reduceSub]
    refine wpMix_seg 1 (by kernel_rfl) (by decide) ?_
    simp only [tds, Nat.reduceSub]
    repeat (first | go_big_quiet_step (fail) | (go_big_quiet_want; first | refine quiet_arr mk2 rfl rfl rfl aput ?_; go_big_quiet_on | refine quiet_load mk3 rfl rfl rfl aput ?_; go_big_quiet_on | refine quiet_build (BU.out A2 200 cap2) rfl rfl (by simp [Act.eval]) aput ?_; go_big_quiet_on))
    refine wpQuiet_nil ?_
    refine wpMix_eff (by kernel_rfl) ?_
    go_wp2
    first | (refine Exists.elim (⟨_, rfl⟩ : ∃ x, w2.alloc (.cells #[.int .i64 0, .int .i64 0, .int .i64 0, .int .i64 0, .int .u8 0, .int .u8 0, .int .u8 0, .int .u8 0, .int .u8 0, .int .u8 0, .int .u8 0, .int .u8 0, .slice none 0 0] 44) = x) fun wy hwy => ?_; refine Exists.elim (⟨_, rfl⟩ : ∃ x, w2.heap.size = x) fun nb hnb => ?_; rw [hwy, hnb]) | (refine Exists.elim (⟨_, rfl⟩ : ∃ x, wb.drew.alloc (.cells #[.int .i64 0, .int .i64 0, .int .i64 0, .int .i64 0, .int .u8 0, .int .u8 0, .int .u8 0, .int .u8 0, .int .u8 0, .int .u8 0, .int .u8 0, .int .u8 0, .slice none 0 0] 44) = x) fun wy hwy => ?_; refine Exists.elim (⟨_, rfl⟩ : ∃ x, wb.heap.size = x) fun nb hnb => ?_; rw [hwy, hnb]) | (refine Exists.elim (⟨_, rfl⟩ : ∃ x, (wb.alloc (.cells #[.int .i64 0, .int .i64 0, .int .i64 0, .int .i64 0, .int .u8 0, .int .u8 0, .int .u8 0, .int .u8 0, .int .u8 0, .int .u8 0, .int .u8 0, .int .u8 0, .slice none 0 0] 44)).drew = x) fun wy hwy => ?_; refine Exists.elim (⟨_, rfl⟩ : ∃ x, wb.heap.size = x) fun nb hnb => ?_; rw [hwy, hnb])
    have NB : Hid (Blk wy nb (chk0.cs none 0 0) 44) := by rw [← hwy, ← hnb, chk_zero]; first | exact Blk.new w2 (chk0.cs none 0 0) 44 | exact Blk.new wb.drew (chk0.cs none 0 0) 44 | exact (Blk.new wb (chk0.cs none 0 0) 44).drew
    have NBL : Hid (wb.heap.size ≤ nb) := by rw [← hnb]; exact KC.out.size
    have KD : Hid (Keeps None wb wy) := by rw [← hwy]; first | exact KC.out.alloc _ | exact ((Keeps.refl None wb).alloc _).drew
    try have MV : Hid (ChkV wy (fun b => w.heap.size < b ∧ ¬ b = nb) A2 200 cap2 (zs.drop 32)) := by rw [← hwy, ← hnb]; exact (MW.out.mono (fun b hb => ⟨hb.1, Nat.ne_of_lt hb.2⟩)).later ((Keeps.refl None w2).alloc _)
    clear KC hwy hnb
    have KC := KD
    clear KD
    refine MixK.on (InS.mk ((mH.out _).2 (⟨(CB.out _ KC.out).1.1, (CB.out _ KC.out).1.2, AR.out _, (CB.out _ KC.out).2.1⟩))) ?_
    exact tl182 _
   ·
    refine wpPs_cons ?_
    try simp only [tds, Nat.reduceSub]
    refine wpMix_eff (by kernel_rfl) ?_
    go_wp2
    first | (refine Exists.elim (⟨_, rfl⟩ : ∃ x, w2.alloc (.cells #[.int .i64 0, .int .i64 0, .int .i64 0, .int .i64 0, .int .u8 0, .int .u8 0, .int .u8 0, .int .u8 0, .int .u8 0, .int .u8 0, .int .u8 0, .int .u8 0, .slice none 0 0] 44) = x) fun wy hwy => ?_; refine Exists.elim (⟨_, rfl⟩ : ∃ x, w2.heap.size = x) fun nb hnb => ?_; rw [hwy, hnb]) | (refine Exists.elim (⟨_, rfl⟩ : ∃ x, wb.drew.alloc (.cells #[.int .i64 0, .int .i64 0, .int .i64 0, .int .i64 0, .int .u8 0, .int .u8 0, .int .u8 0, .int .u8 0, .int .u8 0, .int .u8 0, .int .u8 0, .int .u8 0, .slice none 0 0] 44) = x) fun wy hwy => ?_; refine Exists.elim (⟨_, rfl⟩ : ∃ x, wb.heap.size = x) fun nb hnb => ?_; rw [hwy, hnb]) | (refine Exists.elim (⟨_, rfl⟩ : ∃ x, (wb.alloc (.cells #[.int .i64 0, .int .i64 0, .int .i64 0, .int .i64 0, .int .u8 0, .int .u8 0, .int .u8 0, .int .u8 0, .int .u8 0, .int .u8 0, .int .u8 0, .int .u8 0, .slice none 0 0] 44)).drew = x) fun wy hwy => ?_; refine Exists.elim (⟨_, rfl⟩ : ∃ x, wb.heap.size = x) fun nb hnb => ?_; rw [hwy, hnb])
    have NB : Hid (Blk wy nb (chk0.cs none 0 0) 44) := by rw [← hwy, ← hnb, chk_zero]; first | exact Blk.new w2 (chk0.cs none 0 0) 44 | exact Blk.new wb.drew (chk0.cs none 0 0) 44 | exact (Blk.new wb (chk0.cs none 0 0) 44).drew
    have NBL : Hid (wb.heap.size ≤ nb) := by rw [← hnb]; exact KC.out.size
    have KD : Hid (Keeps None wb wy) := by rw [← hwy]; first | exact KC.out.alloc _ | exact ((Keeps.refl None wb).alloc _).drew
    try have MV : Hid (ChkV wy (fun b => w.heap.size < b ∧ ¬ b = nb) A2 200 cap2 (zs.drop 32)) := by rw [← hwy, ← hnb]; exact (MW.out.mono (fun b hb => ⟨hb.1, Nat.ne_of_lt hb.2⟩)).later ((Keeps.refl None w2).alloc _)
    clear KC hwy hnb
    have KC := KD
    clear KD
    exact tl185 _
  ·
   refine wpPs_cons ?_
   try simp only [tds, Nat.reduceSub]
   refine wpMix_eff (by kernel_rfl) ?_
   go_wp2
   first | (refine Exists.elim (⟨_, rfl⟩ : ∃ x, w2.alloc (.cells #[.int .i64 0, .int .i64 0, .int .i64 0, .int .i64 0, .int .u8 0, .int .u8 0, .int .u8 0, .int .u8 0, .int .u8 0, .int .u8 0, .int .u8 0, .int .u8 0, .slice none 0 0] 44) = x) fun wy hwy => ?_; refine Exists.elim (⟨_, rfl⟩ : ∃ x, w2.heap.size = x) fun nb hnb => ?_; rw [hwy, hnb]) | (refine Exists.elim (⟨_, rfl⟩ : ∃ x, wb.drew.alloc (.cells #[.int .i64 0, .int .i64 0, .int .i64 0, .int .i64 0, .int .u8 0, .int .u8 0, .int .u8 0, .int .u8 0, .int .u8 0, .int .u8 0, .int .u8 0, .int .u8 0, .slice none 0 0] 44) = x) fun wy hwy => ?_; refine Exists.elim (⟨_, rfl⟩ : ∃ x, wb.heap.size = x) fun nb hnb => ?_; rw [hwy, hnb]) | (refine Exists.elim (⟨_, rfl⟩ : ∃ x, (wb.alloc (.cells #[.int .i64 0, .int .i64 0, .int .i64 0, .int .i64 0, .int .u8 0, .int .u8 0, .int .u8 0, .int .u8 0, .int .u8 0, .int .u8 0, .int .u8 0, .int .u8 0, .slice none 0 0] 44)).drew = x) fun wy hwy => ?_; refine Exists.elim (⟨_, rfl⟩ : ∃ x, wb.heap.size = x) fun nb hnb => ?_; rw [hwy, hnb])
   have NB : Hid (Blk wy nb (chk0.cs none 0 0) 44) := by rw [← hwy, ← hnb, chk_zero]; first | exact Blk.new w2 (chk0.cs none 0 0) 44 | exact Blk.new wb.drew (chk0.cs none 0 0) 44 | exact (Blk.new wb (chk0.cs none 0 0) 44).drew
   have NBL : Hid (wb.heap.size ≤ nb) := by rw [← hnb]; exact KC.out.size
   have KD : Hid (Keeps None wb wy) := by rw [← hwy]; first | exact KC.out.alloc _ | exact ((Keeps.refl None wb).alloc _).drew
   try have MV : Hid (ChkV wy (fun b => w.heap.size < b ∧ ¬ b = nb) A2 200 cap2 (zs.drop 32)) := by rw [← hwy, ← hnb]; exact (MW.out.mono (fun b hb => ⟨hb.1, Nat.ne_of_lt hb.2⟩)).later ((Keeps.refl None w2).alloc _)
   clear KC hwy hnb
   have KC := KD
   clear KD
   exact tl186 _
 ·
  refine wpPs_cons ?_
  try simp only [tds, Nat.reduceSub]
  refine wpMix_eff (by kernel_rfl) ?_
  go_wp2
  first | (refine Exists.elim (⟨_, rfl⟩ : ∃ x, w2.alloc (.cells #[.int .i64 0, .int .i64 0, .int .i64 0, .int .i64 0, .int .u8 0, .int .u8 0, .int .u8 0, .int .u8 0, .int .u8 0, .int .u8 0, .int .u8 0, .int .u8 0, .slice none 0 0] 44) = x) fun wy hwy => ?_; refine Exists.elim (⟨_, rfl⟩ : ∃ x, w2.heap.size = x) fun nb hnb => ?_; rw [hwy, hnb]) | (refine Exists.elim (⟨_, rfl⟩ : ∃ x, wb.drew.alloc (.cells #[.int .i64 0, .int .i64 0, .int .i64 0, .int .i64 0, .int .u8 0, .int .u8 0, .int .u8 0, .int .u8 0, .int .u8 0, .int .u8 0, .int .u8 0, .int .u8 0, .slice none 0 0] 44) = x) fun wy hwy => ?_; refine Exists.elim (⟨_, rfl⟩ : ∃ x, wb.heap.size = x) fun nb hnb => ?_; rw [hwy, hnb]) | (refine Exists.elim (⟨_, rfl⟩ : ∃ x, (wb.alloc (.cells #[.int .i64 0, .int .i64 0, .int .i64 0, .int .i64 0, .int .u8 0, .int .u8 0, .int .u8 0, .int .u8 0, .int .u8 0, .int .u8 0, .int .u8 0, .int .u8 0, .slice none 0 0] 44)).drew = x) fun wy hwy => ?_; refine Exists.elim (⟨_, rfl⟩ : ∃ x, wb.heap.size = x) fun nb hnb => ?_; rw [hwy, hnb])
  have NB : Hid (Blk wy nb (chk0.cs none 0 0) 44) := by rw [← hwy, ← hnb, chk_zero]; first | exact Blk.new w2 (chk0.cs none 0 0) 44 | exact Blk.new wb.drew (chk0.cs none 0 0) 44 | exact (Blk.new wb (chk0.cs none 0 0) 44).drew
  have NBL : Hid (wb.heap.size ≤ nb) := by rw [← hnb]; exact KC.out.size
  have KD : Hid (Keeps None wb wy) := by rw [← hwy]; first | exact KC.out.alloc _ | exact ((Keeps.refl None wb).alloc _).drew
  try have MV : Hid (ChkV wy (fun b => w.heap.size < b ∧ ¬ b = nb) A2 200 cap2 (zs.drop 32)) := by rw [← hwy, ← hnb]; exact (MW.out.mono (fun b hb => ⟨hb.1, Nat.ne_of_lt hb.2⟩)).later ((Keeps.refl None w2).alloc _)
  clear KC hwy hnb
  have KC := KD
  clear KD
  refine MixK.on (InS.mk ((mH.out _).2 (⟨(CB.out _ KC.out).1.1, (CB.out _ KC.out).1.2, AR.out _, (CB.out _ KC.out).2.1⟩))) ?_
  refine wpMix_nil ?_
  refine wpPs_nil ?_
  refine wpT_node1 (us := [(0, 22), (23, 1)]) [(8, 3)] [(0, 8), (11, 11), (23, 1)] (by kernel_rfl) ?_
  ·
   refine wpPs_cons ?_
   try simp only [tds, Nat.reduceSub]
   refine wpMix_seg 2 (by kernel_rfl) (by decide) ?_
   simp only [tds, Nat.reduceSub]
   repeat (first | go_big_quiet_step (fail) | (go_big_quiet_want; first | refine quiet_arr mk2 rfl rfl rfl aput ?_; go_big_quiet_on | refine quiet_load mk3 rfl rfl rfl aput ?_; go_big_quiet_on | refine quiet_build (BU.out A2 200 cap2) rfl rfl (by simp [Act.eval]) aput ?_; go_big_quiet_on))
   refine wpQuiet_nil ?_
   refine wpMix_eff (by kernel_rfl) ?_
   go_wp2_with fail
   refine (V1.out _ ((CB.out _ KC.out).2.2.drop (by decide))).mono ?_
   rintro e w' ⟨rfl, rfl⟩
   go_wp2
   exact tl186 _
end Go.Proofs.YtobgbilanibodaaGreat
