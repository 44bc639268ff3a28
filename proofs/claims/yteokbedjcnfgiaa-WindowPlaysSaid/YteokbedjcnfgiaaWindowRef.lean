/- The reference's window: Back. -/
import Derived.Test.YteokbedjcnfgiaaWindowLast2
namespace Go.Proofs.Yteokbedjcnfgiaa
open Go.RowKit

set_option maxRecDepth 100000 in
set_option maxHeartbeats 800000 in
theorem rwback_any (b : Nat) (A : Option Addr) (n cap : Nat) (h : List Int) (d : Int) (w : World) (hc : w.cell? ⟨b, 0, none⟩ = some (.slice A n cap)) (hb : Bs w A n cap h) :
    Calls Try.prog 18 #[.pointer (some ⟨b, 0, none⟩), .int .i64 d] w fun e w' => e = .returned (.tuple #[.int .u8 (backV h d), .bool (backOk h d)]) ∧ ∃ m, w' = w.drewN m := by
  have hl := hb.len
  have le1 := hb.le
  have mx1 := hb.max
  by_cases hd : 1 ≤ d
  · have hd1 : decide (d < 1) = false := by simpa using hd
    by_cases hd2 : d ≤ min (h.length : Int) 4096
    · have hok : backOk h d = true := by simp [backOk, hd]; omega
      have hv : backV h d = h.getD (h.length - d.toNat) 0 := by simp only [backV]; rw [if_pos ⟨hd, hd2⟩]
      rw [hok, hv, hl]
      rw [hl] at hd2
      obtain ⟨e, rfl⟩ := Int.eq_ofNat_of_zero_le (show 0 ≤ d by omega)
      rw [Int.toNat_natCast]
      have he1 : 1 ≤ e := by omega
      have he2 : e ≤ n := by omega
      have he3 : e ≤ 4096 := by omega
      obtain ⟨bl, of, x, rfl, hx, hxa, hxb, hc1⟩ := hb.get (show n - e < n by omega)
      rw [hx]
      have q1 : decide ((n : Int) < e) = false := by simp; omega
      have q2 : decide (4096 < (e : Int)) = false := by simp; omega
      have hc2 : w.cell? ⟨bl, of + (n - e), none⟩ = some (.int .u8 x) := hc1
      clear hok hv hl hb hd hd2 hx hc1
      go_enter Try.func18, Try.ntmps18
      go_wp2
      go_quiet (fail)
      go_wp2
      go_ret2
      exact ⟨rfl, _, rfl⟩
    · have hok : backOk h d = false := by simp [backOk]; omega
      have hv : backV h d = 0 := by simp only [backV]; rw [if_neg (by omega)]
      rw [hok, hv]
      rw [hl] at hd2
      clear hok hv hb hl
      by_cases hn : (n : Int) < d
      · have q1 : decide ((n : Int) < d) = true := by simpa using hn
        clear hd2 hd
        go_enter Try.func18, Try.ntmps18
        go_wp2
        go_ret2
        exact ⟨rfl, 0, rfl⟩
      · have q1 : decide ((n : Int) < d) = false := by simp; omega
        have q2 : decide (4096 < d) = true := by simp; omega
        clear hd2 hd hn
        go_enter Try.func18, Try.ntmps18
        go_wp2
        go_ret2
        exact ⟨rfl, 0, rfl⟩
  · have hd1 : decide (d < 1) = true := by simpa using hd
    have hok : backOk h d = false := by simp [backOk]; omega
    have hv : backV h d = 0 := by simp only [backV]; rw [if_neg (by omega)]
    rw [hok, hv]
    clear hok hv hd hb hl
    go_enter Try.func18, Try.ntmps18
    go_wp2
    go_ret2
    exact ⟨rfl, 0, rfl⟩

set_option maxHeartbeats 400000 in
theorem cap15_any (n lo hi : Int) (h : lo ≤ hi) (w : World) :
    Calls Try.prog 56 #[.int .i64 n, .int .i64 lo, .int .i64 hi] w fun e w' => e = .returned (.int .i64 (max lo (min n hi))) ∧ w = w' := by
  go_enter Try.func56, Try.ntmps56
  go_wp2
  all_goals (go_ret; refine ⟨ret_int ?_, rfl⟩; omega)

/-- Last's own core: the row's last L bytes, copied. -/
def lastOf (h : List Int) (L : Nat) : List Int := h.drop (h.length - L)
theorem Bs.dropIf0 {w : World} {A : Option Addr} {n cap : Nat} {zs : List Int} (h : Bs w A n cap zs) : Bs w A (n - 0) (cap - 0) (zs.drop 0) := h

theorem Bs.dropEq {w : World} {b off n L : Nat} {zs : List Int} (h : Bs w (some ⟨b, off, none⟩) n (n - L) zs) (hL : L ≤ n) : Bs w (some ⟨b, off, none⟩) 0 0 (zs.drop (n - L)) := by
  have hd := h.drop (show n - L ≤ n by omega)
  have h1 := h.le
  exact ⟨by rw [hd.len]; omega, by omega, by decide, (fun e => by cases e), hd.byte, fun hn => by omega⟩

-- #1 name, #2 the slice's address, #3 its room, #4 what is asked beside, #5 the bytes of the piece, #6 the piece
set_option maxRecDepth 100000 in
set_option maxHeartbeats 800000 in
theorem rwlast_ne (b bl of n cap : Nat) (h : List Int) (d : Int) (M : Nat) (w : World) (hc : w.cell? ⟨b, 0, none⟩ = some (.slice (some ⟨bl, of, none⟩) n (cap))) (hb : Bs w (some ⟨bl, of, none⟩) n (cap) h)
    (hn : n ≤ 1099511627776) (hL : max 0 (min d 4096) = M) (hbl : b < w.heap.size) (hLn : M ≤ n) (q1 : decide ((n : Int) < M) = false) (hx : ¬ cap = n - M) :
    Calls Try.prog 21 #[.pointer (some ⟨b, 0, none⟩), .int .i64 d] w (Cloned w (h.drop (n - M))) := by
  have le1 := hb.le
  have mx1 := hb.max
  have HC := Lib.hid (cap15_any d 0 4096 (by decide) w)
  rw [hL] at HC
  have HB := Lib.hid (hb.drop (show n - M ≤ n by omega))
  clear hL hb
  go_enter Try.func21, Try.ntmps21
  go_wp2_with (go_at_call 56; refine HC.out.mono ?_; rintro e w' ⟨rfl, rfl⟩)
  obtain ⟨mS, mh⟩ : ∃ S : World → Prop, ∀ w', S w' ↔ (w'.cell? ⟨b, 0, none⟩ = some (.slice (some ⟨bl, of, none⟩) n (cap))) := ⟨_, fun _ => Iff.rfl⟩
  have mk0 : ∀ x : Memb mS, x.at_.cell? ⟨b, 0, none⟩ = some (.slice (some ⟨bl, of, none⟩) n (cap)) := fun x => ((mh _).1 x.is)
  have mn : Nonempty (Memb mS) := ⟨⟨(w).drew, (mh _).2 (hc)⟩⟩
  have mH := Lib.hid mh
  clear mh
  refine wp_region_mix [12] (InS mS) (by kernel_rfl) (by kernel_rfl) (InS.mk ((mH.out _).2 (hc))) ?_
  refine wpMix_seg 12 (by kernel_rfl) (by decide) ?_
  simp only [List.take_succ_cons, List.take_zero, List.drop_succ_cons, List.drop_zero]
  repeat (go_big_quiet_step (fail))
  refine wpQuiet_nil ?_
  refine wpMix_eff (by kernel_rfl) ?_
  go_wp2_with (at_builtin; go_loud (refine wpList_append_bs (Own.nil _ w.heap.size) HB.out.drew (by simp <;> omega) (by simp) rfl rfl rfl rfl rfl ?_); intro v' w4 ho4 hk4)
  refine MixK.on (InS.mk ((mH.out _).2 ((hk4.cell (p := ⟨b, 0, none⟩) hbl (fun h => by simp [Value.ownBlock] at h)).trans hc))) ?_
  refine wpMix_seg 1 (by kernel_rfl) (by decide) ?_
  simp only [List.take_succ_cons, List.take_zero, List.drop_succ_cons, List.drop_zero]
  repeat (go_big_quiet_step (fail))
  refine wpQuiet_nil ?_
  refine wpMix_nil ?_
  clear mk0 mn mH
  rw [List.nil_append] at ho4
  have HO := Lib.hid ho4
  have HK := Lib.hid ((Keeps.refl None w).drew.trans hk4 (fun _ h => h) (fun i _ h => by simp [Value.ownBlock] at h))
  clear ho4 hk4
  go_wp2
  go_ret
  exact ⟨_, rfl, HO.out, HK.out⟩
set_option maxRecDepth 100000 in
set_option maxHeartbeats 800000 in
theorem rwlast_eq (b bl of n cap : Nat) (h : List Int) (d : Int) (M : Nat) (w : World) (hc : w.cell? ⟨b, 0, none⟩ = some (.slice (some ⟨bl, of, none⟩) n (n - M))) (hb : Bs w (some ⟨bl, of, none⟩) n (n - M) h)
    (hn : n ≤ 1099511627776) (hL : max 0 (min d 4096) = M) (hbl : b < w.heap.size) (hLn : M ≤ n) (q1 : decide ((n : Int) < M) = false) :
    Calls Try.prog 21 #[.pointer (some ⟨b, 0, none⟩), .int .i64 d] w (Cloned w (h.drop (n - M))) := by
  have le1 := hb.le
  have mx1 := hb.max
  have HC := Lib.hid (cap15_any d 0 4096 (by decide) w)
  rw [hL] at HC
  have HB := Lib.hid (hb.dropEq hLn)
  clear hL hb
  go_enter Try.func21, Try.ntmps21
  go_wp2_with (go_at_call 56; refine HC.out.mono ?_; rintro e w' ⟨rfl, rfl⟩)
  obtain ⟨mS, mh⟩ : ∃ S : World → Prop, ∀ w', S w' ↔ (w'.cell? ⟨b, 0, none⟩ = some (.slice (some ⟨bl, of, none⟩) n (n - M))) := ⟨_, fun _ => Iff.rfl⟩
  have mk0 : ∀ x : Memb mS, x.at_.cell? ⟨b, 0, none⟩ = some (.slice (some ⟨bl, of, none⟩) n (n - M)) := fun x => ((mh _).1 x.is)
  have mn : Nonempty (Memb mS) := ⟨⟨(w).drew, (mh _).2 (hc)⟩⟩
  have mH := Lib.hid mh
  clear mh
  refine wp_region_mix [12] (InS mS) (by kernel_rfl) (by kernel_rfl) (InS.mk ((mH.out _).2 (hc))) ?_
  refine wpMix_seg 12 (by kernel_rfl) (by decide) ?_
  simp only [List.take_succ_cons, List.take_zero, List.drop_succ_cons, List.drop_zero]
  repeat (go_big_quiet_step (fail))
  refine wpQuiet_nil ?_
  refine wpMix_eff (by kernel_rfl) ?_
  go_wp2_with (at_builtin; go_loud (refine wpList_append_bs (Own.nil _ w.heap.size) HB.out.drew (by simp <;> omega) (by simp) rfl rfl rfl rfl rfl ?_); intro v' w4 ho4 hk4)
  refine MixK.on (InS.mk ((mH.out _).2 ((hk4.cell (p := ⟨b, 0, none⟩) hbl (fun h => by simp [Value.ownBlock] at h)).trans hc))) ?_
  refine wpMix_seg 1 (by kernel_rfl) (by decide) ?_
  simp only [List.take_succ_cons, List.take_zero, List.drop_succ_cons, List.drop_zero]
  repeat (go_big_quiet_step (fail))
  refine wpQuiet_nil ?_
  refine wpMix_nil ?_
  clear mk0 mn mH
  rw [List.nil_append] at ho4
  have HO := Lib.hid ho4
  have HK := Lib.hid ((Keeps.refl None w).drew.trans hk4 (fun _ h => h) (fun i _ h => by simp [Value.ownBlock] at h))
  clear ho4 hk4
  go_wp2
  go_ret
  exact ⟨_, rfl, HO.out, HK.out⟩
set_option maxRecDepth 100000 in
set_option maxHeartbeats 800000 in
theorem rwlast_big (b bl of n cap : Nat) (h : List Int) (d : Int) (M : Nat) (w : World) (hc : w.cell? ⟨b, 0, none⟩ = some (.slice (some ⟨bl, of, none⟩) n (cap))) (hb : Bs w (some ⟨bl, of, none⟩) n (cap) h)
    (hn : n ≤ 1099511627776) (hL : max 0 (min d 4096) = M) (hbl : b < w.heap.size) (q1 : n < M) :
    Calls Try.prog 21 #[.pointer (some ⟨b, 0, none⟩), .int .i64 d] w (Cloned w (h)) := by
  have le1 := hb.le
  have mx1 := hb.max
  have HC := Lib.hid (cap15_any d 0 4096 (by decide) w)
  rw [hL] at HC
  have HB := Lib.hid (hb)
  clear hL hb
  go_enter Try.func21, Try.ntmps21
  go_wp2_with (go_at_call 56; refine HC.out.mono ?_; rintro e w' ⟨rfl, rfl⟩)
  obtain ⟨mS, mh⟩ : ∃ S : World → Prop, ∀ w', S w' ↔ (w'.cell? ⟨b, 0, none⟩ = some (.slice (some ⟨bl, of, none⟩) n (cap))) := ⟨_, fun _ => Iff.rfl⟩
  have mk0 : ∀ x : Memb mS, x.at_.cell? ⟨b, 0, none⟩ = some (.slice (some ⟨bl, of, none⟩) n (cap)) := fun x => ((mh _).1 x.is)
  have mn : Nonempty (Memb mS) := ⟨⟨(w).drew, (mh _).2 (hc)⟩⟩
  have mH := Lib.hid mh
  clear mh
  refine wp_region_mix [12] (InS mS) (by kernel_rfl) (by kernel_rfl) (InS.mk ((mH.out _).2 (hc))) ?_
  refine wpMix_seg 12 (by kernel_rfl) (by decide) ?_
  simp only [List.take_succ_cons, List.take_zero, List.drop_succ_cons, List.drop_zero]
  repeat (go_big_quiet_step (fail))
  refine wpQuiet_nil ?_
  refine wpMix_eff (by kernel_rfl) ?_
  go_wp2_with (at_builtin; go_loud (refine wpList_append_bs (Own.nil _ w.heap.size) HB.out.drew (by simp <;> omega) (by simp) rfl rfl rfl rfl rfl ?_); intro v' w4 ho4 hk4)
  refine MixK.on (InS.mk ((mH.out _).2 ((hk4.cell (p := ⟨b, 0, none⟩) hbl (fun h => by simp [Value.ownBlock] at h)).trans hc))) ?_
  refine wpMix_seg 1 (by kernel_rfl) (by decide) ?_
  simp only [List.take_succ_cons, List.take_zero, List.drop_succ_cons, List.drop_zero]
  repeat (go_big_quiet_step (fail))
  refine wpQuiet_nil ?_
  refine wpMix_nil ?_
  clear mk0 mn mH
  rw [List.nil_append] at ho4
  have HO := Lib.hid ho4
  have HK := Lib.hid ((Keeps.refl None w).drew.trans hk4 (fun _ h => h) (fun i _ h => by simp [Value.ownBlock] at h))
  clear ho4 hk4
  go_wp2
  go_ret
  exact ⟨_, rfl, HO.out, HK.out⟩

-- the nil row
set_option maxRecDepth 100000 in
set_option maxHeartbeats 800000 in
theorem rwlast_nil (b : Nat) (d : Int) (M : Nat) (q1 : M = 0 ∨ 0 < M) (w : World) (hc : w.cell? ⟨b, 0, none⟩ = some (.slice none 0 0)) (hL : max 0 (min d 4096) = M) (hbl : b < w.heap.size) :
    Calls Try.prog 21 #[.pointer (some ⟨b, 0, none⟩), .int .i64 d] w (Cloned w []) := by
  have HC := Lib.hid (cap15_any d 0 4096 (by decide) w)
  rw [hL] at HC
  have HB := Lib.hid (show Bs w none 0 0 [] from ⟨rfl, Nat.le_refl _, by omega, fun _ => ⟨rfl, rfl⟩, by simp, fun h => by omega⟩)
  clear hL
  rcases q1 with rfl | q1
  all_goals
    go_enter Try.func21, Try.ntmps21
    go_wp2_with (go_at_call 56; refine HC.out.mono ?_; rintro e w' ⟨rfl, rfl⟩)
    obtain ⟨mS, mh⟩ : ∃ S : World → Prop, ∀ w', S w' ↔ (w'.cell? ⟨b, 0, none⟩ = some (.slice none 0 0)) := ⟨_, fun _ => Iff.rfl⟩
    have mk0 : ∀ x : Memb mS, x.at_.cell? ⟨b, 0, none⟩ = some (.slice none 0 0) := fun x => ((mh _).1 x.is)
    have mn : Nonempty (Memb mS) := ⟨⟨(w).drew, (mh _).2 (hc)⟩⟩
    have mH := Lib.hid mh
    clear mh
    refine wp_region_mix [12] (InS mS) (by kernel_rfl) (by kernel_rfl) (InS.mk ((mH.out _).2 (hc))) ?_
    refine wpMix_seg 12 (by kernel_rfl) (by decide) ?_
    simp only [List.take_succ_cons, List.take_zero, List.drop_succ_cons, List.drop_zero]
    repeat (go_big_quiet_step (fail))
    refine wpQuiet_nil ?_
    refine wpMix_eff (by kernel_rfl) ?_
    go_wp2_with (at_builtin; refine wpList_append_bs (Own.nil _ w.heap.size) HB.out.drew (by simp) (by simp) rfl rfl rfl rfl rfl ?_; intro v' w4 ho4 hk4)
    refine MixK.on (InS.mk ((mH.out _).2 ((hk4.cell (p := ⟨b, 0, none⟩) hbl (fun h => by simp [Value.ownBlock] at h)).trans hc))) ?_
    refine wpMix_seg 1 (by kernel_rfl) (by decide) ?_
    simp only [List.take_succ_cons, List.take_zero, List.drop_succ_cons, List.drop_zero]
    repeat (go_big_quiet_step (fail))
    refine wpQuiet_nil ?_
    refine wpMix_nil ?_
    clear mk0 mn mH
    rw [List.nil_append] at ho4
    have HO := Lib.hid ho4
    have HK := Lib.hid ((Keeps.refl None w).drew.trans hk4 (fun _ h => h) (fun i _ h => by simp [Value.ownBlock] at h))
    clear ho4 hk4
    go_wp2
    go_ret
    exact ⟨_, rfl, HO.out, HK.out⟩

-- a row without bytes that is not nil: #1 name, #2 its room, #3 what is asked beside, #4 the piece's address
set_option maxRecDepth 100000 in
set_option maxHeartbeats 800000 in
theorem rwlast_m1 (b : Nat) (a : Addr) (cap : Nat) (d : Int) (M : Nat) (w : World) (hc : w.cell? ⟨b, 0, none⟩ = some (.slice (some a) 0 (0))) (hm : cap ≤ 9223372036854775807) (hL : max 0 (min d 4096) = M) (hbl : b < w.heap.size) (q1 : M = 0) :
    Calls Try.prog 21 #[.pointer (some ⟨b, 0, none⟩), .int .i64 d] w (Cloned w []) := by
  have HC := Lib.hid (cap15_any d 0 4096 (by decide) w)
  rw [hL] at HC
  have HB := Lib.hid (show Bs w (some a) 0 (0) [] from Bs.empty w _ _ (by omega))
  clear hL
  go_enter Try.func21, Try.ntmps21
  go_wp2_with (go_at_call 56; refine HC.out.mono ?_; rintro e w' ⟨rfl, rfl⟩)
  obtain ⟨mS, mh⟩ : ∃ S : World → Prop, ∀ w', S w' ↔ (w'.cell? ⟨b, 0, none⟩ = some (.slice (some a) 0 (0))) := ⟨_, fun _ => Iff.rfl⟩
  have mk0 : ∀ x : Memb mS, x.at_.cell? ⟨b, 0, none⟩ = some (.slice (some a) 0 (0)) := fun x => ((mh _).1 x.is)
  have mn : Nonempty (Memb mS) := ⟨⟨(w).drew, (mh _).2 (hc)⟩⟩
  have mH := Lib.hid mh
  clear mh
  refine wp_region_mix [12] (InS mS) (by kernel_rfl) (by kernel_rfl) (InS.mk ((mH.out _).2 (hc))) ?_
  refine wpMix_seg 12 (by kernel_rfl) (by decide) ?_
  simp only [List.take_succ_cons, List.take_zero, List.drop_succ_cons, List.drop_zero]
  repeat (go_big_quiet_step (fail))
  refine wpQuiet_nil ?_
  refine wpMix_eff (by kernel_rfl) ?_
  go_wp2_with (at_builtin; refine wpList_append_bs (Own.nil _ w.heap.size) HB.out.drew (by simp) (by simp) rfl rfl rfl rfl rfl ?_; intro v' w4 ho4 hk4)
  refine MixK.on (InS.mk ((mH.out _).2 ((hk4.cell (p := ⟨b, 0, none⟩) hbl (fun h => by simp [Value.ownBlock] at h)).trans hc))) ?_
  refine wpMix_seg 1 (by kernel_rfl) (by decide) ?_
  simp only [List.take_succ_cons, List.take_zero, List.drop_succ_cons, List.drop_zero]
  repeat (go_big_quiet_step (fail))
  refine wpQuiet_nil ?_
  refine wpMix_nil ?_
  clear mk0 mn mH
  rw [List.nil_append] at ho4
  have HO := Lib.hid ho4
  have HK := Lib.hid ((Keeps.refl None w).drew.trans hk4 (fun _ h => h) (fun i _ h => by simp [Value.ownBlock] at h))
  clear ho4 hk4
  go_wp2
  go_ret
  exact ⟨_, rfl, HO.out, HK.out⟩
set_option maxRecDepth 100000 in
set_option maxHeartbeats 800000 in
theorem rwlast_m2 (b : Nat) (a : Addr) (cap : Nat) (d : Int) (M : Nat) (w : World) (hc : w.cell? ⟨b, 0, none⟩ = some (.slice (some a) 0 (0))) (hm : cap ≤ 9223372036854775807) (hL : max 0 (min d 4096) = M) (hbl : b < w.heap.size) (q1 : 0 < M) :
    Calls Try.prog 21 #[.pointer (some ⟨b, 0, none⟩), .int .i64 d] w (Cloned w []) := by
  have HC := Lib.hid (cap15_any d 0 4096 (by decide) w)
  rw [hL] at HC
  have HB := Lib.hid (show Bs w (some a) 0 (0) [] from Bs.empty w _ _ (by omega))
  clear hL
  go_enter Try.func21, Try.ntmps21
  go_wp2_with (go_at_call 56; refine HC.out.mono ?_; rintro e w' ⟨rfl, rfl⟩)
  obtain ⟨mS, mh⟩ : ∃ S : World → Prop, ∀ w', S w' ↔ (w'.cell? ⟨b, 0, none⟩ = some (.slice (some a) 0 (0))) := ⟨_, fun _ => Iff.rfl⟩
  have mk0 : ∀ x : Memb mS, x.at_.cell? ⟨b, 0, none⟩ = some (.slice (some a) 0 (0)) := fun x => ((mh _).1 x.is)
  have mn : Nonempty (Memb mS) := ⟨⟨(w).drew, (mh _).2 (hc)⟩⟩
  have mH := Lib.hid mh
  clear mh
  refine wp_region_mix [12] (InS mS) (by kernel_rfl) (by kernel_rfl) (InS.mk ((mH.out _).2 (hc))) ?_
  refine wpMix_seg 12 (by kernel_rfl) (by decide) ?_
  simp only [List.take_succ_cons, List.take_zero, List.drop_succ_cons, List.drop_zero]
  repeat (go_big_quiet_step (fail))
  refine wpQuiet_nil ?_
  refine wpMix_eff (by kernel_rfl) ?_
  go_wp2_with (at_builtin; refine wpList_append_bs (Own.nil _ w.heap.size) HB.out.drew (by simp) (by simp) rfl rfl rfl rfl rfl ?_; intro v' w4 ho4 hk4)
  refine MixK.on (InS.mk ((mH.out _).2 ((hk4.cell (p := ⟨b, 0, none⟩) hbl (fun h => by simp [Value.ownBlock] at h)).trans hc))) ?_
  refine wpMix_seg 1 (by kernel_rfl) (by decide) ?_
  simp only [List.take_succ_cons, List.take_zero, List.drop_succ_cons, List.drop_zero]
  repeat (go_big_quiet_step (fail))
  refine wpQuiet_nil ?_
  refine wpMix_nil ?_
  clear mk0 mn mH
  rw [List.nil_append] at ho4
  have HO := Lib.hid ho4
  have HK := Lib.hid ((Keeps.refl None w).drew.trans hk4 (fun _ h => h) (fun i _ h => by simp [Value.ownBlock] at h))
  clear ho4 hk4
  go_wp2
  go_ret
  exact ⟨_, rfl, HO.out, HK.out⟩
set_option maxRecDepth 100000 in
set_option maxHeartbeats 800000 in
theorem rwlast_m3 (b : Nat) (a : Addr) (cap : Nat) (d : Int) (M : Nat) (w : World) (hc : w.cell? ⟨b, 0, none⟩ = some (.slice (some a) 0 (cap))) (hm : cap ≤ 9223372036854775807) (hL : max 0 (min d 4096) = M) (hbl : b < w.heap.size) (q1 : M = 0) (hx : ¬ cap = 0) :
    Calls Try.prog 21 #[.pointer (some ⟨b, 0, none⟩), .int .i64 d] w (Cloned w []) := by
  have HC := Lib.hid (cap15_any d 0 4096 (by decide) w)
  rw [hL] at HC
  have HB := Lib.hid (show Bs w (some (a.add 0)) 0 (cap) [] from Bs.empty w _ _ (by omega))
  clear hL
  go_enter Try.func21, Try.ntmps21
  go_wp2_with (go_at_call 56; refine HC.out.mono ?_; rintro e w' ⟨rfl, rfl⟩)
  obtain ⟨mS, mh⟩ : ∃ S : World → Prop, ∀ w', S w' ↔ (w'.cell? ⟨b, 0, none⟩ = some (.slice (some a) 0 (cap))) := ⟨_, fun _ => Iff.rfl⟩
  have mk0 : ∀ x : Memb mS, x.at_.cell? ⟨b, 0, none⟩ = some (.slice (some a) 0 (cap)) := fun x => ((mh _).1 x.is)
  have mn : Nonempty (Memb mS) := ⟨⟨(w).drew, (mh _).2 (hc)⟩⟩
  have mH := Lib.hid mh
  clear mh
  refine wp_region_mix [12] (InS mS) (by kernel_rfl) (by kernel_rfl) (InS.mk ((mH.out _).2 (hc))) ?_
  refine wpMix_seg 12 (by kernel_rfl) (by decide) ?_
  simp only [List.take_succ_cons, List.take_zero, List.drop_succ_cons, List.drop_zero]
  repeat (go_big_quiet_step (fail))
  refine wpQuiet_nil ?_
  refine wpMix_eff (by kernel_rfl) ?_
  go_wp2_with (at_builtin; refine wpList_append_bs (Own.nil _ w.heap.size) HB.out.drew (by simp) (by simp) rfl rfl rfl rfl rfl ?_; intro v' w4 ho4 hk4)
  refine MixK.on (InS.mk ((mH.out _).2 ((hk4.cell (p := ⟨b, 0, none⟩) hbl (fun h => by simp [Value.ownBlock] at h)).trans hc))) ?_
  refine wpMix_seg 1 (by kernel_rfl) (by decide) ?_
  simp only [List.take_succ_cons, List.take_zero, List.drop_succ_cons, List.drop_zero]
  repeat (go_big_quiet_step (fail))
  refine wpQuiet_nil ?_
  refine wpMix_nil ?_
  clear mk0 mn mH
  rw [List.nil_append] at ho4
  have HO := Lib.hid ho4
  have HK := Lib.hid ((Keeps.refl None w).drew.trans hk4 (fun _ h => h) (fun i _ h => by simp [Value.ownBlock] at h))
  clear ho4 hk4
  go_wp2
  go_ret
  exact ⟨_, rfl, HO.out, HK.out⟩
set_option maxRecDepth 100000 in
set_option maxHeartbeats 800000 in
theorem rwlast_m4 (b : Nat) (a : Addr) (cap : Nat) (d : Int) (M : Nat) (w : World) (hc : w.cell? ⟨b, 0, none⟩ = some (.slice (some a) 0 (cap))) (hm : cap ≤ 9223372036854775807) (hL : max 0 (min d 4096) = M) (hbl : b < w.heap.size) (q1 : 0 < M) (hx : ¬ cap = 0) :
    Calls Try.prog 21 #[.pointer (some ⟨b, 0, none⟩), .int .i64 d] w (Cloned w []) := by
  have HC := Lib.hid (cap15_any d 0 4096 (by decide) w)
  rw [hL] at HC
  have HB := Lib.hid (show Bs w (some (a.add 0)) 0 (cap) [] from Bs.empty w _ _ (by omega))
  clear hL
  go_enter Try.func21, Try.ntmps21
  go_wp2_with (go_at_call 56; refine HC.out.mono ?_; rintro e w' ⟨rfl, rfl⟩)
  obtain ⟨mS, mh⟩ : ∃ S : World → Prop, ∀ w', S w' ↔ (w'.cell? ⟨b, 0, none⟩ = some (.slice (some a) 0 (cap))) := ⟨_, fun _ => Iff.rfl⟩
  have mk0 : ∀ x : Memb mS, x.at_.cell? ⟨b, 0, none⟩ = some (.slice (some a) 0 (cap)) := fun x => ((mh _).1 x.is)
  have mn : Nonempty (Memb mS) := ⟨⟨(w).drew, (mh _).2 (hc)⟩⟩
  have mH := Lib.hid mh
  clear mh
  refine wp_region_mix [12] (InS mS) (by kernel_rfl) (by kernel_rfl) (InS.mk ((mH.out _).2 (hc))) ?_
  refine wpMix_seg 12 (by kernel_rfl) (by decide) ?_
  simp only [List.take_succ_cons, List.take_zero, List.drop_succ_cons, List.drop_zero]
  repeat (go_big_quiet_step (fail))
  refine wpQuiet_nil ?_
  refine wpMix_eff (by kernel_rfl) ?_
  go_wp2_with (at_builtin; refine wpList_append_bs (Own.nil _ w.heap.size) HB.out.drew (by simp) (by simp) rfl rfl rfl rfl rfl ?_; intro v' w4 ho4 hk4)
  refine MixK.on (InS.mk ((mH.out _).2 ((hk4.cell (p := ⟨b, 0, none⟩) hbl (fun h => by simp [Value.ownBlock] at h)).trans hc))) ?_
  refine wpMix_seg 1 (by kernel_rfl) (by decide) ?_
  simp only [List.take_succ_cons, List.take_zero, List.drop_succ_cons, List.drop_zero]
  repeat (go_big_quiet_step (fail))
  refine wpQuiet_nil ?_
  refine wpMix_nil ?_
  clear mk0 mn mH
  rw [List.nil_append] at ho4
  have HO := Lib.hid ho4
  have HK := Lib.hid ((Keeps.refl None w).drew.trans hk4 (fun _ h => h) (fun i _ h => by simp [Value.ownBlock] at h))
  clear ho4 hk4
  go_wp2
  go_ret
  exact ⟨_, rfl, HO.out, HK.out⟩
theorem rwlast_mt (b : Nat) (a : Addr) (cap : Nat) (d : Int) (M : Nat) (w : World) (hc : w.cell? ⟨b, 0, none⟩ = some (.slice (some a) 0 cap)) (hb : Bs w (some a) 0 cap []) (hL : max 0 (min d 4096) = M) (hbl : b < w.heap.size) :
    Calls Try.prog 21 #[.pointer (some ⟨b, 0, none⟩), .int .i64 d] w (Cloned w []) := by
  by_cases hx : cap = 0
  · subst hx
    rcases Nat.eq_zero_or_pos M with q | q
    · exact rwlast_m1 b a 0 d M w hc (by decide) hL hbl q
    · exact rwlast_m2 b a 0 d M w hc (by decide) hL hbl q
  · rcases Nat.eq_zero_or_pos M with q | q
    · exact rwlast_m3 b a cap d M w hc hb.max hL hbl q hx
    · exact rwlast_m4 b a cap d M w hc hb.max hL hbl q hx

theorem rwlast_any (b : Nat) (A : Option Addr) (n cap : Nat) (h : List Int) (d : Int) (w : World) (hc : w.cell? ⟨b, 0, none⟩ = some (.slice A n cap)) (hb : Bs w A n cap h) (hn : n ≤ 1099511627776) (hbl : b < w.heap.size) :
    Calls Try.prog 21 #[.pointer (some ⟨b, 0, none⟩), .int .i64 d] w (Cloned w (lastN h d)) := by
  obtain ⟨M, hM⟩ : ∃ M : Nat, max 0 (min d 4096) = M := ⟨(max 0 (min d 4096)).toNat, by omega⟩
  have hl := hb.len
  cases A with
  | none =>
    obtain ⟨rfl, rfl⟩ := hb.nil rfl
    have e : h = [] := List.eq_nil_of_length_eq_zero hb.len
    subst e
    have e2 : lastN [] d = [] := by simp [lastN, lastTo]; omega
    rw [e2]
    exact rwlast_nil b d M (by omega) w hc hM hbl
  | some a =>
    by_cases h0 : n = 0
    · -- an empty row that is not nil
      subst h0
      have e : h = [] := List.eq_nil_of_length_eq_zero hb.len
      subst e
      have e2 : lastN [] d = [] := by simp [lastN, lastTo]; omega
      rw [e2]
      exact rwlast_mt b a cap d M w hc hb hM hbl
    · obtain ⟨bl, of, e, _, _⟩ := hb.at_ (by omega)
      cases e
      by_cases hLn : M ≤ n
      · have q1 : decide ((n : Int) < M) = false := by simp; omega
        rw [lastN_drop h d M (by omega) (by omega), hl]
        by_cases hx : cap = n - M
        · subst hx
          exact rwlast_eq b bl of n 0 h d M w hc hb hn hM hbl hLn q1
        · exact rwlast_ne b bl of n cap h d M w hc hb hn hM hbl hLn q1 hx
      · rw [lastN_drop h d n (by omega) (by omega), hl, Nat.sub_self, List.drop_zero]
        exact rwlast_big b bl of n cap h d M w hc hb hn hM hbl (by omega)
end Go.Proofs.Yteokbedjcnfgiaa
