/- The walks of package nor: Half, Blank, IsBlank; the law's alive and Short. -/
import Derived.Test.YtngofnlhbhfigaaNor
import Derived.Lib.Hide
namespace Go.Proofs.Ytngofnlhbhfigaa
open Go.RowKit

/-- What stands there when power went while bytes were erased. -/
def halfAt (os ps : List Int) (i : Nat) : Int := bits .or .u8 (os.getD i 0) (ps.getD i 0)
def halfTo (os ps : List Int) (k : Nat) : List Int := (List.range os.length).map fun i => if i < k then halfAt os ps i else os.getD i 0
def halfN (os ps : List Int) : List Int := halfTo os ps os.length
theorem halfTo_zero (os ps : List Int) : halfTo os ps 0 = os := by
  unfold halfTo
  apply List.ext_getElem?
  intro i
  by_cases hi : i < os.length
  · simp [hi]
  · simp [hi]
theorem halfTo_succ (os ps : List Int) (k : Nat) (hk : k < os.length) : (halfTo os ps k).set k (halfAt os ps k) = halfTo os ps (k + 1) := by
  unfold halfTo
  rw [range_set _ _ _ _ hk]
  refine List.map_congr_left fun i _ => ?_
  by_cases h : i = k
  · subst h; simp
  · by_cases h2 : i < k
    · simp [h, h2, show i < k + 1 by omega]
    · simp [h, h2, show ¬ i < k + 1 by omega]
theorem halfTo_get (os ps : List Int) (k : Nat) (hk : k < os.length) : (halfTo os ps k).getD k 0 = os.getD k 0 := by
  unfold halfTo; simp [List.getD, hk]
theorem halfTo_length (os ps : List Int) (k : Nat) : (halfTo os ps k).length = os.length := by simp [halfTo]

set_option maxRecDepth 100000 in
set_option maxHeartbeats 1600000 in
theorem half_any (A1 A3 : Option Addr) (n1 c1 n3 c3 : Nat) (os ps : List Int) (w : World) (h1 : Bs w A1 n1 c1 os) (h3 : Bs w A3 n3 c3 ps) (hn : n1 ≤ 1099511627776) :
    Calls Try.prog 75 #[.slice A1 n1 c1, .slice A3 n3 c3] w (Cloned w (halfN os ps)) := by
  have HK := Lib.hid (clone_any A1 n1 c1 os w h1 hn)
  have hl2 := h1.len
  have hb2 := h1.byte
  have H3 := Lib.hid h3
  clear h1 h3
  have FIN : Hid (halfN os ps = halfTo os ps os.length) := rfl
  have HL2 := Lib.hid hl2
  have HB2 := Lib.hid hb2
  clear hl2 hb2
  go_enter Try.func75, Try.ntmps75
  go_wp2_with fail
  refine HK.out.mono ?_
  rintro e w1 ⟨v, rfl, ho, hk⟩
  obtain ⟨A, cap, hv, hbs, hfr⟩ := ho.shape
  rw [HL2.out] at hv hbs
  subst hv
  have hle := hbs.le
  have hmx := hbs.max
  have HO := Lib.hid ho
  have K1 := Lib.hid hk
  clear ho hbs hfr hk HK
  go_wp2
  go_loopw [11] (fun i wr => ∃ k : Nat, k ≤ n1 ∧ i = .int .i64 k ∧ Own wr w.heap.size (.slice A n1 cap) (halfTo os ps k) ∧ Keeps (fun b => w.heap.size ≤ b) w wr) (fun i _ => n1 - (intOf i).toNat)
  case atStart => exact ⟨0, Nat.zero_le _, rfl, by rw [halfTo_zero]; exact HO.out, K1.out.ofNone⟩
  case round =>
    obtain ⟨k, hkn, rfl, hO, hK⟩ := hrel
    by_cases hlt : k < n1
    · obtain ⟨g, rfl, hg1, hg2, hgl, hle', hmx', hgc, hgf⟩ := hO.at_ hlt
      have hP : Bs wr A3 n3 c3 ps := H3.out.later hK
      have z2b := byte_getD HB2.out k
      rw [halfTo_get os ps k (by rw [HL2.out]; exact hlt)] at hgc
      have z3b := byte_getD hP.byte k
      have HT : Hid (bits .or .u8 (os.getD k 0) (ps.getD k 0) = halfAt os ps k) := rfl
      have NA := Lib.hid (nat_any A3 n3 c3 ps k wr.drew hP.drew (by omega))
      have z4 := bits_or_bd (os.getD k 0) _ z2b z3b
      generalize os.getD k 0 = z2 at *
      generalize ps.getD k 0 = z3 at *
      have HO2 := Lib.hid (hO.store rfl k _ z4 (by rw [halfTo_length, HL2.out]; exact hlt))
      have HK2 := Lib.hid hK
      clear hO hK hP HO hgl
      go_wp2
      obtain ⟨mS, mh⟩ : ∃ S : World → Prop, ∀ w', S w' ↔ (w'.cell? ⟨g, k, none⟩ = some (.int .u8 z2)) := ⟨_, fun _ => Iff.rfl⟩
      have mk0 : ∀ x : Memb mS, x.at_.cell? ⟨g, k, none⟩ = some (.int .u8 z2) := fun x => ((mh _).1 x.is)
      have mn : Nonempty (Memb mS) := ⟨⟨(wr).drew, (mh _).2 (hgc)⟩⟩
      have mH := Lib.hid mh
      clear mh
      refine wp_region_mix [6, 9] (InS mS) (by kernel_rfl) (by kernel_rfl) (InS.mk ((mH.out _).2 (hgc))) ?_
      refine wpMix_seg 6 (by kernel_rfl) (by decide) ?_
      simp only [List.take_succ_cons, List.take_zero, List.drop_succ_cons, List.drop_zero]
      repeat (go_big_quiet_step (fail))
      refine wpQuiet_nil ?_
      refine wpMix_eff (by kernel_rfl) ?_
      go_wp2_with fail
      refine NA.out.mono ?_
      rintro e w3 ⟨rfl, rfl⟩
      go_wp2
      refine MixK.on (InS.mk ((mH.out _).2 (hgc))) ?_
      refine wpMix_seg 2 (by kernel_rfl) (by decide) ?_
      simp only [List.take_succ_cons, List.take_zero, List.drop_succ_cons, List.drop_zero]
      repeat (go_big_quiet_step (fail))
      refine wpQuiet_nil ?_
      refine wpMix_eff (by kernel_rfl) ?_
      go_wp2
      refine MixK.last (by kernel_rfl) ?_
      refine wpMix_nil ?_
      clear mk0 mn mH
      go_wp2
      go_roundw
      case rel =>
        refine ⟨k + 1, by omega, by go_num, ?_, ?_⟩
        · rw [← halfTo_succ os ps k (by rw [HL2.out]; exact hlt), ← HT.out]; exact HO2.out.drew
        · exact (HK2.out.setCell _ _ (fun _ => hg1)).drew
      case measure => simp [intOf]; omega
    · have e : k = n1 := by omega
      subst e
      have fin : halfTo os ps k = halfN os ps := by rw [FIN.out, HL2.out]
      have FIN2 := Lib.hid fin
      have HO2 := Lib.hid hO
      have HK2 := Lib.hid hK
      clear hO hK fin HO
      go_wp2
      go_ret
      exact ⟨_, rfl, by rw [← FIN2.out]; exact HO2.out, HK2.out.mono (fun i hi h => absurd h (Nat.not_le.2 hi))⟩

/-- How many blank bytes. -/
def blankN (n : Int) : List Int := List.replicate (max 0 (min n 65536)).toNat 255
/-- k bytes laid blank, the rest 0. -/
def blankTo (n k : Nat) : List Int := List.replicate k 255 ++ List.replicate (n - k) 0
theorem blankTo_set (n k : Nat) (h : k < n) : (blankTo n k).set k 255 = blankTo n (k + 1) := by
  unfold blankTo
  obtain ⟨m, rfl⟩ : ∃ m, n = k + 1 + m := ⟨n - (k + 1), by omega⟩
  rw [show k + 1 + m - k = m + 1 by omega, show k + 1 + m - (k + 1) = m by omega, List.replicate_succ, List.set_append]
  simp [List.replicate_succ', List.append_assoc]
theorem blankTo_length (n k : Nat) (h : k ≤ n) : (blankTo n k).length = n := by simp [blankTo]; omega
theorem blankTo_zero (n : Nat) : blankTo n 0 = List.replicate n 0 := by simp [blankTo]
theorem blankTo_all (n : Nat) : blankTo n n = List.replicate n 255 := by simp [blankTo]

set_option maxHeartbeats 400000 in
theorem cap_any (n lo hi : Int) (h : lo ≤ hi) (w : World) :
    Calls Try.prog 76 #[.int .i64 n, .int .i64 lo, .int .i64 hi] w fun e w' => e = .returned (.int .i64 (max lo (min n hi))) ∧ w = w' := by
  go_enter Try.func76, Try.ntmps76
  go_wp2
  all_goals (go_ret; refine ⟨ret_int ?_, rfl⟩; omega)

set_option maxRecDepth 100000 in
set_option maxHeartbeats 800000 in
theorem blank_mid (n : Int)  (m : Nat) (w : World) (hm : m ≤ 65536) (hn : 0 < n ∧ n ≤ 65536) (hL : n = (m : Int)) (hcap : ∀ w, Calls Try.prog 76 #[.int .i64 n, .int .i64 0, .int .i64 65536] w fun e w' => e = .returned (.int .i64 n) ∧ w = w') :
    Calls Try.prog 65 #[.int .i64 n] w (Cloned w (List.replicate m 255)) := by
  have HCAP := Lib.hid hcap
  have hmk := fun w => run_make_blk (P := Try.prog) 22 5 (.int .u8 0) 1 Try.underlying22 Try.info5 rfl .i64 .i64 _ _ m hL hL (by omega) (by omega) w
  clear hL hcap
  go_enter Try.func65, Try.ntmps65
  go_wp2_with (go_at_call 76; refine (HCAP.out _).mono ?_; rintro e w' ⟨rfl, rfl⟩)
  go_loopw [11] (fun i wr => ∃ k : Nat, k ≤ m ∧ i = .int .i64 k ∧ Blk wr w.heap.size ((blankTo m k).map (.int .u8)) 5 ∧ Keeps None w wr) (fun i _ => m - (intOf i).toNat)
  case atStart =>
    refine ⟨0, Nat.zero_le _, rfl, ?_, (Keeps.refl _ _).alloc _⟩
    have := Blk.new w (List.replicate m (.int .u8 0)) 5
    rw [blankTo_zero]
    simpa using this
  case round =>
    obtain ⟨k, hk, rfl, hb, hkp⟩ := hrel
    have HB := Lib.hid hb
    by_cases hlt : k < m
    · have c2 := hb.cellD k _ (map_getD 0 (show k < (blankTo m k).length by rw [blankTo_length m k hk]; exact hlt))
      have c3 := hb.frozen k
      clear hb
      go_wp2
      go_roundw
      case rel =>
        refine ⟨k + 1, by omega, by go_num, ?_, hkp.setCell _ _ (by simp)⟩
        have := HB.out.set k (.int .u8 255)
        rw [← blankTo_set m k hlt, List.map_set]; exact this
      case measure => simp [intOf]; omega
    · clear hb
      obtain rfl : k = m := by omega
      have fin : Own wr w.heap.size (.slice (some ⟨w.heap.size, 0, none⟩) k k) (List.replicate k 255) := by
        have hb := HB.out
        rw [blankTo_all] at hb
        refine ⟨⟨by simp, .inr ⟨w.heap.size, k, _, by simp, Nat.le_refl _, hb, by simp, by unfold maxLen; omega, by simp, by simp⟩⟩, fun z hz => ?_⟩
        rw [(List.mem_replicate.1 hz).2]; decide
      have FIN := Lib.hid fin
      clear fin
      go_wp2
      go_ret
      exact ⟨_, rfl, FIN.out, hkp⟩
set_option maxRecDepth 100000 in
set_option maxHeartbeats 800000 in
theorem blank_low (n : Int)  (m : Nat) (w : World) (hm : m ≤ 65536) (hn : n ≤ 0) (hL : 0 = (m : Int)) (hcap : ∀ w, Calls Try.prog 76 #[.int .i64 n, .int .i64 0, .int .i64 65536] w fun e w' => e = .returned (.int .i64 0) ∧ w = w') :
    Calls Try.prog 65 #[.int .i64 n] w (Cloned w (List.replicate m 255)) := by
  have HCAP := Lib.hid hcap
  have hmk := fun w => run_make_blk (P := Try.prog) 22 5 (.int .u8 0) 1 Try.underlying22 Try.info5 rfl .i64 .i64 _ _ m hL hL (by omega) (by omega) w
  clear hL hcap
  go_enter Try.func65, Try.ntmps65
  go_wp2_with (go_at_call 76; refine (HCAP.out _).mono ?_; rintro e w' ⟨rfl, rfl⟩)
  go_loopw [11] (fun i wr => ∃ k : Nat, k ≤ m ∧ i = .int .i64 k ∧ Blk wr w.heap.size ((blankTo m k).map (.int .u8)) 5 ∧ Keeps None w wr) (fun i _ => m - (intOf i).toNat)
  case atStart =>
    refine ⟨0, Nat.zero_le _, rfl, ?_, (Keeps.refl _ _).alloc _⟩
    have := Blk.new w (List.replicate m (.int .u8 0)) 5
    rw [blankTo_zero]
    simpa using this
  case round =>
    obtain ⟨k, hk, rfl, hb, hkp⟩ := hrel
    have HB := Lib.hid hb
    by_cases hlt : k < m
    · have c2 := hb.cellD k _ (map_getD 0 (show k < (blankTo m k).length by rw [blankTo_length m k hk]; exact hlt))
      have c3 := hb.frozen k
      clear hb
      go_wp2
      go_roundw
      case rel =>
        refine ⟨k + 1, by omega, by go_num, ?_, hkp.setCell _ _ (by simp)⟩
        have := HB.out.set k (.int .u8 255)
        rw [← blankTo_set m k hlt, List.map_set]; exact this
      case measure => simp [intOf]; omega
    · clear hb
      obtain rfl : k = m := by omega
      have fin : Own wr w.heap.size (.slice (some ⟨w.heap.size, 0, none⟩) k k) (List.replicate k 255) := by
        have hb := HB.out
        rw [blankTo_all] at hb
        refine ⟨⟨by simp, .inr ⟨w.heap.size, k, _, by simp, Nat.le_refl _, hb, by simp, by unfold maxLen; omega, by simp, by simp⟩⟩, fun z hz => ?_⟩
        rw [(List.mem_replicate.1 hz).2]; decide
      have FIN := Lib.hid fin
      clear fin
      go_wp2
      go_ret
      exact ⟨_, rfl, FIN.out, hkp⟩
set_option maxRecDepth 100000 in
set_option maxHeartbeats 800000 in
theorem blank_high (n : Int)  (m : Nat) (w : World) (hm : m ≤ 65536) (hn : 65536 < n) (hL : 65536 = (m : Int)) (hcap : ∀ w, Calls Try.prog 76 #[.int .i64 n, .int .i64 0, .int .i64 65536] w fun e w' => e = .returned (.int .i64 65536) ∧ w = w') :
    Calls Try.prog 65 #[.int .i64 n] w (Cloned w (List.replicate m 255)) := by
  have HCAP := Lib.hid hcap
  have hmk := fun w => run_make_blk (P := Try.prog) 22 5 (.int .u8 0) 1 Try.underlying22 Try.info5 rfl .i64 .i64 _ _ m hL hL (by omega) (by omega) w
  clear hL hcap
  go_enter Try.func65, Try.ntmps65
  go_wp2_with (go_at_call 76; refine (HCAP.out _).mono ?_; rintro e w' ⟨rfl, rfl⟩)
  go_loopw [11] (fun i wr => ∃ k : Nat, k ≤ m ∧ i = .int .i64 k ∧ Blk wr w.heap.size ((blankTo m k).map (.int .u8)) 5 ∧ Keeps None w wr) (fun i _ => m - (intOf i).toNat)
  case atStart =>
    refine ⟨0, Nat.zero_le _, rfl, ?_, (Keeps.refl _ _).alloc _⟩
    have := Blk.new w (List.replicate m (.int .u8 0)) 5
    rw [blankTo_zero]
    simpa using this
  case round =>
    obtain ⟨k, hk, rfl, hb, hkp⟩ := hrel
    have HB := Lib.hid hb
    by_cases hlt : k < m
    · have c2 := hb.cellD k _ (map_getD 0 (show k < (blankTo m k).length by rw [blankTo_length m k hk]; exact hlt))
      have c3 := hb.frozen k
      clear hb
      go_wp2
      go_roundw
      case rel =>
        refine ⟨k + 1, by omega, by go_num, ?_, hkp.setCell _ _ (by simp)⟩
        have := HB.out.set k (.int .u8 255)
        rw [← blankTo_set m k hlt, List.map_set]; exact this
      case measure => simp [intOf]; omega
    · clear hb
      obtain rfl : k = m := by omega
      have fin : Own wr w.heap.size (.slice (some ⟨w.heap.size, 0, none⟩) k k) (List.replicate k 255) := by
        have hb := HB.out
        rw [blankTo_all] at hb
        refine ⟨⟨by simp, .inr ⟨w.heap.size, k, _, by simp, Nat.le_refl _, hb, by simp, by unfold maxLen; omega, by simp, by simp⟩⟩, fun z hz => ?_⟩
        rw [(List.mem_replicate.1 hz).2]; decide
      have FIN := Lib.hid fin
      clear fin
      go_wp2
      go_ret
      exact ⟨_, rfl, FIN.out, hkp⟩
set_option maxRecDepth 100000 in
set_option maxHeartbeats 800000 in
theorem rblank_core (n : Int) (c : Int) (m : Nat) (w : World) (hm : m ≤ 65536) (hn : True) (hL : c = (m : Int)) (hcap : ∀ w, Calls Try.prog 76 #[.int .i64 n, .int .i64 0, .int .i64 65536] w fun e w' => e = .returned (.int .i64 c) ∧ w = w') :
    Calls Try.prog 77 #[.int .i64 n] w (Cloned w (List.replicate m 255)) := by
  have HCAP := Lib.hid hcap
  have hmk := fun w => run_make_blk (P := Try.prog) 22 5 (.int .u8 0) 1 Try.underlying22 Try.info5 rfl .i64 .i64 _ _ m hL hL (by omega) (by omega) w
  clear hL hcap
  go_enter Try.func77, Try.ntmps77
  go_wp2_with (go_at_call 76; refine (HCAP.out _).mono ?_; rintro e w' ⟨rfl, rfl⟩)
  go_loopw [4] (fun i wr => ∃ k : Nat, k ≤ m ∧ i = .int .i64 k ∧ Blk wr w.heap.size ((blankTo m k).map (.int .u8)) 5 ∧ Keeps None w wr) (fun i _ => m - (intOf i).toNat)
  case atStart =>
    refine ⟨0, Nat.zero_le _, rfl, ?_, (Keeps.refl _ _).alloc _⟩
    have := Blk.new w (List.replicate m (.int .u8 0)) 5
    rw [blankTo_zero]
    simpa using this
  case round =>
    obtain ⟨k, hk, rfl, hb, hkp⟩ := hrel
    have HB := Lib.hid hb
    by_cases hlt : k < m
    · have c2 := hb.cellD k _ (map_getD 0 (show k < (blankTo m k).length by rw [blankTo_length m k hk]; exact hlt))
      have c3 := hb.frozen k
      clear hb
      go_wp2
      go_roundw
      case rel =>
        refine ⟨k + 1, by omega, by go_num, ?_, hkp.setCell _ _ (by simp)⟩
        have := HB.out.set k (.int .u8 255)
        rw [← blankTo_set m k hlt, List.map_set]; exact this
      case measure => simp [intOf]; omega
    · clear hb
      obtain rfl : k = m := by omega
      have fin : Own wr w.heap.size (.slice (some ⟨w.heap.size, 0, none⟩) k k) (List.replicate k 255) := by
        have hb := HB.out
        rw [blankTo_all] at hb
        refine ⟨⟨by simp, .inr ⟨w.heap.size, k, _, by simp, Nat.le_refl _, hb, by simp, by unfold maxLen; omega, by simp, by simp⟩⟩, fun z hz => ?_⟩
        rw [(List.mem_replicate.1 hz).2]; decide
      have FIN := Lib.hid fin
      clear fin
      go_wp2
      go_ret
      exact ⟨_, rfl, FIN.out, hkp⟩

theorem blank_any (n : Int) (w : World) : Calls Try.prog 65 #[.int .i64 n] w (Cloned w (blankN n)) := by
  unfold blankN
  by_cases h1 : n ≤ 0
  · have e : (max 0 (min n 65536)).toNat = 0 := by omega
    rw [e]
    exact blank_low n 0 w (by omega) h1 rfl (fun w => by have := cap_any n 0 65536 (by decide) w; rwa [show max 0 (min n 65536) = 0 by omega] at this)
  · by_cases h2 : n ≤ 65536
    · have e : (max 0 (min n 65536)).toNat = n.toNat := by omega
      rw [e]
      exact blank_mid n n.toNat w (by omega) ⟨by omega, h2⟩ (by omega) (fun w => by have := cap_any n 0 65536 (by decide) w; rwa [show max 0 (min n 65536) = n by omega] at this)
    · have e : (max 0 (min n 65536)).toNat = 65536 := by omega
      rw [e]
      exact blank_high n 65536 w (by omega) (by omega) rfl (fun w => by have := cap_any n 0 65536 (by decide) w; rwa [show max 0 (min n 65536) = 65536 by omega] at this)
theorem rblank_any (n : Int) (w : World) : Calls Try.prog 77 #[.int .i64 n] w (Cloned w (blankN n)) :=
  rblank_core n (max 0 (min n 65536)) _ w (by omega) trivial (by omega) (fun w => cap_any n 0 65536 (by decide) w)

/-! ### IsBlank -/
def blankB (zs : List Int) : Bool := decide (∀ i, i < zs.length → zs.getD i 0 = 255)

set_option maxHeartbeats 400000 in
theorem isBlank1_any (z : Int) (w : World) : Calls Try.prog 84 #[.int .u8 z] w fun e w' => e = .returned (.bool (z != 255)) ∧ w = w' := by
  go_enter Try.func84, Try.ntmps84
  go_wp2
  all_goals (go_ret; exact ⟨rfl, rfl⟩)

/-- The index at which a byte is not blank. -/
def Indexed (zs : List Int) (w : World) (e : Ending) (w' : World) : Prop := ∃ i : Int, e = .returned (.int .i64 i) ∧ w = w' ∧ -1 ≤ i ∧ i < 9223372036854775807 ∧ (0 ≤ i ↔ blankB zs = false)

set_option maxRecDepth 100000 in
set_option maxHeartbeats 800000 in
theorem indexFunc_any (A : Option Addr) (n cap : Nat) (zs : List Int) (w : World) (h : Bs w A n cap zs) :
    Calls Try.prog 101 #[.slice A n cap, .func (.func 84) #[] #[]] w (Indexed zs w) := by
  have m1 := h.le
  have m2 := h.max
  have H := Lib.hid h
  clear h
  go_enter Try.func101, Try.ntmps101
  go_wp2
  go_loop [8] (fun i => ∃ k : Nat, k ≤ n ∧ i = .int .i64 k ∧ ∀ i, i < k → zs.getD i 0 = 255) (fun i => n - (intOf i).toNat)
  case atStart => exact ⟨0, Nat.zero_le _, rfl, fun i hi => by omega⟩
  case round =>
    obtain ⟨k, hkn, rfl, hall⟩ := hrel
    have HA := Lib.hid hall
    clear hall
    by_cases hlt : k < n
    · obtain ⟨b, off, z, rfl, g, z1, z2, cc⟩ := H.out.get hlt
      have G := Lib.hid g
      clear g
      by_cases hz : z = 255
      · have q : (z != 255) = false := by simp [hz]
        have HZ := Lib.hid hz
        clear hz
        go_wp2_with (go_at_call 84; refine (isBlank1_any _ _).mono ?_; rintro e w' ⟨rfl, rfl⟩)
        go_round
        case rel =>
          refine ⟨k + 1, by omega, by go_num, fun i hi => ?_⟩
          by_cases h : i = k
          · subst h; rw [G.out]; exact HZ.out
          · exact HA.out i (by omega)
        case measure => simp [intOf]; omega
      · have q : (z != 255) = true := by simp [hz]
        have fin : blankB zs = false := by
          simp only [blankB, decide_eq_false_iff_not]
          intro h
          exact hz (by rw [← G.out]; exact h k (by have := H.out.len; omega))
        have FIN := Lib.hid fin
        clear hz fin
        go_wp2_with (go_at_call 84; refine (isBlank1_any _ _).mono ?_; rintro e w' ⟨rfl, rfl⟩)
        go_ret
        exact ⟨k, rfl, rfl, by omega, by omega, fun _ => FIN.out, fun _ => by omega⟩
    · have fin : blankB zs = true := by
        simp only [blankB, decide_eq_true_eq]
        have l1 := H.out.len
        exact fun i hi => HA.out i (by omega)
      have FIN := Lib.hid fin
      clear fin
      go_wp2
      go_ret
      exact ⟨-1, rfl, rfl, by omega, by omega, fun h => by omega, fun h => by rw [FIN.out] at h; cases h⟩

set_option maxRecDepth 100000 in
set_option maxHeartbeats 800000 in
theorem containsFunc_any (A : Option Addr) (n cap : Nat) (zs : List Int) (w : World) (h : Bs w A n cap zs) :
    Calls Try.prog 83 #[.slice A n cap, .func (.func 84) #[] #[]] w fun e w' => e = .returned (.bool (!blankB zs)) ∧ w = w' := by
  have HI := Lib.hid (indexFunc_any A n cap zs w h)
  clear h
  go_enter Try.func83, Try.ntmps83
  go_wp2_with fail
  refine HI.out.mono ?_
  rintro e w1 ⟨i, rfl, rfl, i1, i2, i3⟩
  have fin : decide (0 ≤ i) = !blankB zs := by
    cases hb : blankB zs
    · simp [hb] at i3 ⊢; exact i3
    · simp [hb] at i3 ⊢; exact i3
  have FIN := Lib.hid fin
  clear i3 fin
  go_wp2
  go_ret
  exact ⟨ret_bool FIN.out, rfl⟩

set_option maxHeartbeats 400000 in
theorem isBlank_any (A : Option Addr) (n cap : Nat) (zs : List Int) (w : World) (h : Bs w A n cap zs) :
    Calls Try.prog 40 #[.slice A n cap] w fun e w' => e = .returned (.bool (blankB zs)) ∧ w = w' := by
  have HI := Lib.hid (containsFunc_any A n cap zs w h)
  clear h
  generalize blankB zs = b at *
  go_enter Try.func40, Try.ntmps40
  go_wp2_with fail
  refine HI.out.mono ?_
  rintro e w1 ⟨rfl, rfl⟩
  go_wp2
  go_ret
  exact ⟨ret_bool (by simp), rfl⟩

end Go.Proofs.Ytngofnlhbhfigaa
