
/- The walks of package model and of the reference's tree: each call's result and what it changes. -/
import Derived.Test.YtnanbnaikmaljaaLzPa
import Derived.StillTailTactics
import Derived.Deep.RegionWith
import Derived.Deep.RegionHeld3
namespace Go.Proofs.Ytnanbnaikmaljaa
open Go.RowKit

def hold (p : Int) : Int := max 31 (min p 2017)
def adapt (p b : Int) : Int := if b = 0 then hold p + (2048 - hold p) / 32 else hold p - hold p / 32
theorem hold_lo (p : Int) : 31 ≤ hold p := by unfold hold; omega
theorem hold_hi (p : Int) : hold p ≤ 2017 := by unfold hold; omega
theorem adapt_lo (p b : Int) : 31 ≤ adapt p b := by have := hold_lo p; have := hold_hi p; unfold adapt; split <;> omega
theorem adapt_hi (p b : Int) : adapt p b ≤ 2017 := by have := hold_lo p; have := hold_hi p; unfold adapt; split <;> omega

set_option maxHeartbeats 400000 in
theorem hold_any (p : Int) (w : World) :
    Calls Try.prog 74 #[.int .i64 p] w fun e w' => e = .returned (.int .i64 (hold p)) ∧ w = w' := by
  go_enter Try.func74, Try.ntmps74
  go_wp2
  all_goals (go_ret; refine ⟨ret_int ?_, rfl⟩; unfold hold; omega)

set_option maxHeartbeats 400000 in
theorem cap_any (n lo hi : Int) (h : lo ≤ hi) (w : World) :
    Calls Try.prog 48 #[.int .i64 n, .int .i64 lo, .int .i64 hi] w fun e w' => e = .returned (.int .i64 (max lo (min n hi))) ∧ w = w' := by
  go_enter Try.func48, Try.ntmps48
  go_wp2
  all_goals (go_ret; refine ⟨ret_int ?_, rfl⟩; omega)

set_option maxHeartbeats 400000 in
theorem rhold_any (p : Int) (w : World) :
    Calls Try.prog 64 #[.int .i64 p] w fun e w' => e = .returned (.int .i64 (hold p)) ∧ w = w' := by
  go_enter Try.func64, Try.ntmps64
  go_wp2_with (go_at_call 48; refine (cap_any _ _ _ (by decide) _).mono ?_; rintro e w' ⟨rfl, rfl⟩)
  go_ret; exact ⟨rfl, rfl⟩

set_option maxHeartbeats 400000 in
theorem adapt_any (p b : Int) (w : World) :
    Calls Try.prog 77 #[.int .i64 p, .int .i64 b] w fun e w' => e = .returned (.int .i64 (adapt p b)) ∧ w = w' := by
  have h1 := hold_lo p
  have h2 := hold_hi p
  by_cases hb : b = 0
  · have e1 : (b == 0) = true := by simp [hb]
    have e2 : hold p + (2048 - hold p) / 32 = adapt p b := by simp [adapt, hb]
    have E2 := Lib.hid e2
    clear e2 hb
    go_enter Try.func77, Try.ntmps77
    go_wp2_with (go_at_call 74; refine (hold_any _ _).mono ?_; rintro e w' ⟨rfl, rfl⟩)
    go_ret; exact ⟨ret_int E2.out, rfl⟩
  · have e1 : (b == 0) = false := by simp [hb]
    have e2 : hold p - hold p / 32 = adapt p b := by simp [adapt, hb]
    have E2 := Lib.hid e2
    clear e2 hb
    go_enter Try.func77, Try.ntmps77
    go_wp2_with (go_at_call 74; refine (hold_any _ _).mono ?_; rintro e w' ⟨rfl, rfl⟩)
    go_ret; exact ⟨ret_int E2.out, rfl⟩

set_option maxHeartbeats 400000 in
theorem radapt_any (p b : Int) (w : World) :
    Calls Try.prog 66 #[.int .i64 p, .int .i64 b] w fun e w' => e = .returned (.int .i64 (adapt p b)) ∧ w = w' := by
  have h1 := hold_lo p
  have h2 := hold_hi p
  by_cases hb : b = 0
  · have e1 : (b == 0) = true := by simp [hb]
    have e2 : hold p + (2048 - hold p) / 32 = adapt p b := by simp [adapt, hb]
    have E2 := Lib.hid e2
    clear e2 hb
    go_enter Try.func66, Try.ntmps66
    go_wp2_with (go_at_call 64; refine (rhold_any _ _).mono ?_; rintro e w' ⟨rfl, rfl⟩)
    go_ret; exact ⟨ret_int E2.out, rfl⟩
  · have e1 : (b == 0) = false := by simp [hb]
    have e2 : hold p - hold p / 32 = adapt p b := by simp [adapt, hb]
    have E2 := Lib.hid e2
    clear e2 hb
    go_enter Try.func66, Try.ntmps66
    go_wp2_with (go_at_call 64; refine (rhold_any _ _).mono ?_; rintro e w' ⟨rfl, rfl⟩)
    go_ret; exact ⟨ret_int E2.out, rfl⟩

/-- A tree of the program: its struct in block bt, its chances in block bp. -/
def MTree (w : World) (bt bp : Nat) (ps : List Int) : Prop :=
  Blk w bt [.slice (some ⟨bp, 0, none⟩) ps.length ps.length] 118 ∧ Blk w bp (ps.map (.int .u16)) 119 ∧ bt ≠ bp
/-- A tree of the reference. -/
def RTree (w : World) (bt bp : Nat) (bits : Int) (ps : List Int) : Prop :=
  Blk w bt [.int .i64 bits, .slice (some ⟨bp, 0, none⟩) ps.length ps.length] 99 ∧ Blk w bp (ps.map (.int .i64)) 3 ∧ bt ≠ bp
theorem MTree.keeps {w w' : World} {S : Nat → Prop} {bt bp : Nat} {ps : List Int} (h : MTree w bt bp ps) (hk : Keeps S w w') (h1 : ¬ S bt) (h2 : ¬ S bp) : MTree w' bt bp ps :=
  ⟨hk.blk h.1 h1, hk.blk h.2.1 h2, h.2.2⟩
theorem RTree.keeps {w w' : World} {S : Nat → Prop} {bt bp : Nat} {bits : Int} {ps : List Int} (h : RTree w bt bp bits ps) (hk : Keeps S w w') (h1 : ¬ S bt) (h2 : ¬ S bp) : RTree w' bt bp bits ps :=
  ⟨hk.blk h.1 h1, hk.blk h.2.1 h2, h.2.2⟩

theorem MTree.drew {w : World} {bt bp : Nat} {ps : List Int} (h : MTree w bt bp ps) : MTree w.drew bt bp ps := h
theorem RTree.drew {w : World} {bt bp : Nat} {bits : Int} {ps : List Int} (h : RTree w bt bp bits ps) : RTree w.drew bt bp bits ps := h
theorem MTree.drewN {w : World} {bt bp : Nat} {ps : List Int} (h : MTree w bt bp ps) (n : Nat) : MTree (w.drewN n) bt bp ps := h
theorem RTree.drewN {w : World} {bt bp : Nat} {bits : Int} {ps : List Int} (h : RTree w bt bp bits ps) (n : Nat) : RTree (w.drewN n) bt bp bits ps := h

def hasN (ps : List Int) (node : Int) : Bool := decide (1 ≤ node ∧ node < ps.length)
/-- The chance at a node; 0 where there is none. -/
def atN (ps : List Int) (node : Int) : Int := if 1 ≤ node ∧ node < ps.length then ps.getD node.toNat 0 else 0
/-- The chances behind a turn. -/
def turnN (ps : List Int) (node bit : Int) : List Int := if 1 ≤ node ∧ node < ps.length then ps.set node.toNat (adapt (ps.getD node.toNat 0) bit) else ps
theorem turnN_length (ps : List Int) (node bit : Int) : (turnN ps node bit).length = ps.length := by unfold turnN; split <;> simp

set_option maxHeartbeats 400000 in
theorem has_any (bt bp : Nat) (ps : List Int) (node : Int) (w : World) (h : MTree w bt bp ps) (hl : ps.length ≤ 256) :
    Calls Try.prog 78 #[.pointer (some ⟨bt, 0, none⟩), .int .i64 node] w fun e w' => e = .returned (.bool (hasN ps node)) ∧ w = w' := by
  have h1 := h.1.cellD 0 _ rfl
  by_cases hn : 1 ≤ node
  · have e : decide (node < ps.length) = hasN ps node := by simp [hasN, hn]
    have E := Lib.hid e
    clear e
    go_enter Try.func78, Try.ntmps78
    go_wp2
    go_ret
    exact ⟨ret_bool E.out, rfl⟩
  · have e : false = hasN ps node := by simp [hasN, hn]
    have E := Lib.hid e
    have hd : decide (1 ≤ node) = false := by simpa using hn
    clear e hn
    go_enter Try.func78, Try.ntmps78
    go_wp2
    go_ret
    exact ⟨ret_bool E.out, rfl⟩

set_option maxHeartbeats 400000 in
theorem at_any (bt bp : Nat) (ps : List Int) (node : Int) (w : World) (h : MTree w bt bp ps) (hl : ps.length ≤ 256) (hp : ∀ p ∈ ps, 0 ≤ p ∧ p < 65536) :
    Calls Try.prog 72 #[.pointer (some ⟨bt, 0, none⟩), .int .i64 node] w fun e w' => e = .returned (.int .i64 (atN ps node)) ∧ w = w' := by
  have h1 := h.1.cellD 0 _ rfl
  by_cases hn : 1 ≤ node ∧ node < ps.length
  · have e : hasN ps node = true := by simp [hasN, hn]
    have h2 := h.2.1.cellD node.toNat (.int .u16 (ps.getD node.toNat 0)) (map_getD 0 (by omega))
    have hpp := hp (ps.getD node.toNat 0) (getD_mem 0 (by omega))
    have e3 : ps.getD node.toNat 0 = atN ps node := by simp [atN, hn]
    generalize ps.getD node.toNat 0 = q at *
    obtain ⟨hn1, hn2⟩ := hn
    obtain ⟨hp1, hp2⟩ := hpp
    have E := Lib.hid e3
    clear e3 hp
    go_enter Try.func72, Try.ntmps72
    go_wp2_with (go_at_call 78; refine (has_any bt bp ps node _ h hl).mono ?_; rintro e w' ⟨rfl, rfl⟩)
    go_ret
    exact ⟨ret_int E.out, rfl⟩
  · have e : hasN ps node = false := by simp [hasN]; omega
    have e3 : 0 = atN ps node := by rw [atN, if_neg hn]
    have E := Lib.hid e3
    clear e3 hn hp
    go_enter Try.func72, Try.ntmps72
    go_wp2_with (go_at_call 78; refine (has_any bt bp ps node _ h hl).mono ?_; rintro e w' ⟨rfl, rfl⟩)
    go_ret
    exact ⟨ret_int E.out, rfl⟩

set_option maxRecDepth 100000 in
set_option maxHeartbeats 400000 in
theorem turn_any (bt bp : Nat) (ps : List Int) (node bit : Int) (w : World) (h : MTree w bt bp ps) (hl : ps.length ≤ 256) (hp : ∀ p ∈ ps, 0 ≤ p ∧ p < 65536) :
    Calls Try.prog 73 #[.pointer (some ⟨bt, 0, none⟩), .int .i64 node, .int .i64 bit] w fun e w' => e = .returned (.tuple #[]) ∧ MTree w' bt bp (turnN ps node bit) ∧ Keeps (fun k => k = bp) w w' := by
  have h1 := h.1.cellD 0 _ rfl
  by_cases hn : 1 ≤ node ∧ node < ps.length
  · have e : hasN ps node = true := by simp [hasN, hn]
    have h2 := h.2.1.cellD node.toNat (.int .u16 (ps.getD node.toNat 0)) (map_getD 0 (by omega))
    have h3 := h.2.1.frozen node.toNat
    have hpp := hp (ps.getD node.toNat 0) (getD_mem 0 (by omega))
    have e3 : ps.set node.toNat (adapt (ps.getD node.toNat 0) bit) = turnN ps node bit := by simp [turnN, hn]
    generalize ps.getD node.toNat 0 = q at *
    have a1 := adapt_lo q bit
    have a2 := adapt_hi q bit
    obtain ⟨hn1, hn2⟩ := hn
    obtain ⟨hp1, hp2⟩ := hpp
    have E := Lib.hid e3
    clear e3 hp
    go_enter Try.func73, Try.ntmps73
    go_wp2_with (go_at_call 78; refine (has_any bt bp ps node _ h hl).mono ?_; rintro e w' ⟨rfl, rfl⟩)
    obtain ⟨mS, mh⟩ : ∃ S : World → Prop, ∀ w', S w' ↔ (w'.cell? ⟨bt, 0, none⟩ = some (.slice (some ⟨bp, 0, none⟩) ps.length ps.length) ∧ w'.cell? ⟨bp, node.toNat, none⟩ = some (.int .u16 q)) := ⟨_, fun _ => Iff.rfl⟩
    have mk0 : ∀ x : Memb mS, x.at_.cell? ⟨bt, 0, none⟩ = some (.slice (some ⟨bp, 0, none⟩) ps.length ps.length) := fun x => ((mh _).1 x.is).1
    have mk1 : ∀ x : Memb mS, x.at_.cell? ⟨bp, node.toNat, none⟩ = some (.int .u16 q) := fun x => ((mh _).1 x.is).2
    have mn : Nonempty (Memb mS) := ⟨⟨(w).drew, (mh _).2 ⟨h1, h2⟩⟩⟩
    have mH := Lib.hid mh
    clear mh
    refine wp_region_mix [14, 17] (InS mS) (by kernel_rfl) (by kernel_rfl) (InS.mk ((mH.out _).2 ⟨h1, h2⟩)) ?_
    refine wpMix_seg 14 (by kernel_rfl) (by decide) ?_
    simp only [List.take_succ_cons, List.take_zero, List.drop_succ_cons, List.drop_zero]
    repeat (go_big_quiet_step (fail))
    refine wpQuiet_nil ?_
    refine wpMix_eff (by kernel_rfl) ?_
    go_wp2_with (go_at_call 77; refine (adapt_any _ _ _).mono ?_; rintro e w' ⟨rfl, rfl⟩)
    refine MixK.on (InS.mk ((mH.out _).2 ⟨h1, h2⟩)) ?_
    refine wpMix_seg 2 (by kernel_rfl) (by decide) ?_
    simp only [List.take_succ_cons, List.take_zero, List.drop_succ_cons, List.drop_zero]
    repeat (go_big_quiet_step (fail))
    refine wpQuiet_nil ?_
    refine wpMix_eff (by kernel_rfl) ?_
    go_wp2
    refine MixK.last (by kernel_rfl) ?_
    refine wpMix_nil ?_
    clear mk0 mk1 mn mH
    go_wp2
    go_end0
    have hk : Keeps (fun k => k = bp) w (w.setCell ⟨bp, node.toNat, none⟩ (.int .u16 (adapt q bit))).drew := by
      refine Keeps.drew (Keeps.setCell (Keeps.refl _ w) _ _ ?_); intro _; rfl
    refine ⟨rfl, ⟨?_, ?_, h.2.2⟩, hk⟩
    · rw [turnN_length]; exact hk.blk h.1 h.2.2
    · rw [← E.out, List.map_set]; exact (h.2.1.set _ _).drew
  · have e : hasN ps node = false := by simp [hasN]; omega
    have e3 : ps = turnN ps node bit := by rw [turnN, if_neg hn]
    have E := Lib.hid e3
    clear e3 hn hp
    go_enter Try.func73, Try.ntmps73
    go_wp2_with (go_at_call 78; refine (has_any bt bp ps node _ h hl).mono ?_; rintro e w' ⟨rfl, rfl⟩)
    go_end0
    exact ⟨rfl, by rw [← E.out]; exact h, Keeps.refl _ _⟩

set_option maxRecDepth 100000 in
set_option maxHeartbeats 400000 in
theorem rturn_any (bt bp : Nat) (bits : Int) (ps : List Int) (node bit : Int) (w : World) (h : RTree w bt bp bits ps) (hl : ps.length ≤ 256) :
    Calls Try.prog 67 #[.pointer (some ⟨bt, 0, none⟩), .int .i64 node, .int .i64 bit] w fun e w' => e = .returned (.tuple #[]) ∧ RTree w' bt bp bits (turnN ps node bit) ∧ Keeps (fun k => k = bp) w w' := by
  have h1 := h.1.cellD 1 _ rfl
  by_cases hn : 1 ≤ node ∧ node < ps.length
  · have h2 := h.2.1.cellD node.toNat (.int .i64 (ps.getD node.toNat 0)) (map_getD 0 (by omega))
    have h3 := h.2.1.frozen node.toNat
    have e3 : ps.set node.toNat (adapt (ps.getD node.toNat 0) bit) = turnN ps node bit := by simp [turnN, hn]
    generalize ps.getD node.toNat 0 = q at *
    obtain ⟨hn1, hn2⟩ := hn
    have hd1 : decide (1 ≤ node) = true := by simpa using hn1
    have E := Lib.hid e3
    clear e3
    go_enter Try.func67, Try.ntmps67
    go_wp2
    obtain ⟨mS, mh⟩ : ∃ S : World → Prop, ∀ w', S w' ↔ (w'.cell? ⟨bt, 1, none⟩ = some (.slice (some ⟨bp, 0, none⟩) ps.length ps.length) ∧ w'.cell? ⟨bp, node.toNat, none⟩ = some (.int .i64 q)) := ⟨_, fun _ => Iff.rfl⟩
    have mk0 : ∀ x : Memb mS, x.at_.cell? ⟨bt, 1, none⟩ = some (.slice (some ⟨bp, 0, none⟩) ps.length ps.length) := fun x => ((mh _).1 x.is).1
    have mk1 : ∀ x : Memb mS, x.at_.cell? ⟨bp, node.toNat, none⟩ = some (.int .i64 q) := fun x => ((mh _).1 x.is).2
    have mn : Nonempty (Memb mS) := ⟨⟨(w).drew, (mh _).2 ⟨h1, h2⟩⟩⟩
    have mH := Lib.hid mh
    clear mh
    refine wp_region_mix [13, 15] (InS mS) (by kernel_rfl) (by kernel_rfl) (InS.mk ((mH.out _).2 ⟨h1, h2⟩)) ?_
    refine wpMix_seg 13 (by kernel_rfl) (by decide) ?_
    simp only [List.take_succ_cons, List.take_zero, List.drop_succ_cons, List.drop_zero]
    repeat (go_big_quiet_step (fail))
    refine wpQuiet_nil ?_
    refine wpMix_eff (by kernel_rfl) ?_
    go_wp2_with (go_at_call 66; refine (radapt_any _ _ _).mono ?_; rintro e w' ⟨rfl, rfl⟩)
    refine MixK.on (InS.mk ((mH.out _).2 ⟨h1, h2⟩)) ?_
    refine wpMix_seg 1 (by kernel_rfl) (by decide) ?_
    simp only [List.take_succ_cons, List.take_zero, List.drop_succ_cons, List.drop_zero]
    repeat (go_big_quiet_step (fail))
    refine wpQuiet_nil ?_
    refine wpMix_eff (by kernel_rfl) ?_
    go_wp2
    refine MixK.last (by kernel_rfl) ?_
    refine wpMix_nil ?_
    clear mk0 mk1 mn mH
    go_wp2
    go_end0
    have hk : Keeps (fun k => k = bp) w (w.setCell ⟨bp, node.toNat, none⟩ (.int .i64 (adapt q bit))).drew := by
      refine Keeps.drew (Keeps.setCell (Keeps.refl _ w) _ _ ?_); intro _; rfl
    refine ⟨rfl, ⟨?_, ?_, h.2.2⟩, hk⟩
    · rw [turnN_length]; exact hk.blk h.1 h.2.2
    · rw [← E.out, List.map_set]; exact (h.2.1.set _ _).drew
  · have e3 : ps = turnN ps node bit := by rw [turnN, if_neg hn]
    have E := Lib.hid e3
    by_cases hn1 : 1 ≤ node
    · have hd1 : decide (1 ≤ node) = true := by simpa using hn1
      have hn2 : ¬ node < ps.length := by omega
      clear e3 hn
      go_enter Try.func67, Try.ntmps67
      go_wp2
      go_end0
      exact ⟨rfl, by rw [← E.out]; exact h, Keeps.refl _ _⟩
    · have hd1 : decide (1 ≤ node) = false := by simpa using hn1
      clear e3 hn
      go_enter Try.func67, Try.ntmps67
      go_wp2
      go_end0
      exact ⟨rfl, by rw [← E.out]; exact h, Keeps.refl _ _⟩

theorem Try.info119 : (Try.prog.info? 119).map (fun i => (i.zero, i.size, i.bytes)) = some (some (.int .u16 0), 1, 2) := by kernel_rfl
theorem Try.info3 : (Try.prog.info? 3).map (fun i => (i.zero, i.size, i.bytes)) = some (some (.int .i64 0), 1, 8) := by kernel_rfl

/-- How many bits a new tree has. -/
def szN (bits : Int) : Nat := (max 1 (min bits 8)).toNat
theorem szN_lo (bits : Int) : 1 ≤ szN bits := by unfold szN; omega
theorem szN_hi (bits : Int) : szN bits ≤ 8 := by unfold szN; omega
theorem pow_le_256 {k : Nat} (h : k ≤ 8) : 2 ^ k ≤ 256 := by
  have : (2 : Nat) ^ k ≤ 2 ^ 8 := Nat.pow_le_pow_right (by decide) h
  simpa using this
theorem pow_wrap {k : Nat} (h : k ≤ 8) : wrap64 ((2 : Int) ^ k) = ((2 ^ k : Nat) : Int) := by
  have h1 := pow_le_256 h
  have e : ((2 : Int) ^ k) = ((2 ^ k : Nat) : Int) := by simp
  rw [e]
  generalize 2 ^ k = m at h1
  exact IntWalk.wrap64_in _ ⟨by omega, by omega⟩

/-- The chances of a new tree, k of them laid. -/
def laid (n k : Nat) : List Int := List.replicate k 1024 ++ List.replicate (n - k) 0
theorem laid_length (n k : Nat) (h : k ≤ n) : (laid n k).length = n := by simp [laid]; omega
theorem laid_set (n k : Nat) (h : k < n) : (laid n k).set k 1024 = laid n (k + 1) := by
  unfold laid
  obtain ⟨m, rfl⟩ : ∃ m, n = k + 1 + m := ⟨n - (k + 1), by omega⟩
  rw [show k + 1 + m - k = m + 1 by omega, show k + 1 + m - (k + 1) = m by omega, List.replicate_succ, List.set_append]
  simp [List.replicate_succ', List.append_assoc]
theorem laid_zero (n : Nat) : laid n 0 = List.replicate n 0 := by simp [laid]
theorem laid_all (n : Nat) : laid n n = List.replicate n 1024 := by simp [laid]

set_option maxRecDepth 100000 in
set_option maxHeartbeats 400000 in
theorem new_mid (bits : Int) (n : Nat) (w : World) (hn : n ≤ 256) (b1 : 1 < bits ∧ bits ≤ 8) (b3 : wrap64 (2 ^ bits.toNat) = (n : Int)) :
    Calls Try.prog 59 #[.int .i64 bits] w fun e w' => e = .returned (.pointer (some ⟨w.heap.size + 1, 0, none⟩)) ∧ MTree w' (w.heap.size + 1) w.heap.size (List.replicate n 1024) ∧ Keeps None w w' := by
  have hmk := fun w => run_make_blk (P := Try.prog) 116 119 (.int .u16 0) 2 Try.underlying116 Try.info119 rfl .i64 .i64 _ _ n b3 b3 (by omega) (by omega) w
  clear b3
  go_enter Try.func59, Try.ntmps59
  go_wp2
  go_loopw [17] (fun i wr => ∃ k : Nat, k ≤ n ∧ i = .int .i64 k ∧ Blk wr (w.heap.size + 1) [.slice (some ⟨w.heap.size, 0, none⟩) n n] 118 ∧ Blk wr w.heap.size ((laid n k).map (.int .u16)) 119 ∧ Keeps None w wr) (fun i _ => n - (intOf i).toNat)
  case atStart =>
    refine ⟨0, Nat.zero_le _, rfl, ?_, ?_, ((Keeps.refl _ _).alloc _).alloc _⟩
    · have := Blk.new (w.alloc (.cells (Array.replicate n (.int .u16 0)) 119)) [.slice (some ⟨w.heap.size, 0, none⟩) n n] 118
      simpa using this
    · have := (Blk.new w (List.replicate n (.int .u16 0)) 119).alloc (.cells #[.slice (some ⟨w.heap.size, 0, none⟩) n n] 118)
      rw [laid_zero]
      simpa using this
  case round =>
    obtain ⟨k, hk, rfl, hb1, hb2, hkp⟩ := hrel
    have c1 := hb1.cellD 0 _ rfl
    have HB1 := Lib.hid hb1
    have HB2 := Lib.hid hb2
    by_cases hlt : k < n
    · have hk2 : k < (laid n k).length := by rw [laid_length n k hk]; exact hlt
      have c2 := hb2.cellD k _ (map_getD 0 hk2)
      have c3 := hb2.frozen k
      clear hb1 hb2 hk2
      go_wp2
      go_roundw
      case rel =>
        refine ⟨k + 1, by omega, by go_num, HB1.out.setOther _ _ (by simp), ?_, hkp.setCell _ _ (by simp)⟩
        have := HB2.out.set k (.int .u16 1024)
        rw [← laid_set n k hlt, List.map_set]; exact this
      case measure => simp [intOf]; omega
    · clear hb1 hb2
      go_wp2
      go_ret
      have e : k = n := by omega
      subst e
      refine ⟨rfl, ⟨?_, ?_, by omega⟩, hkp⟩
      · simpa using HB1.out
      · rw [← laid_all]; exact HB2.out
set_option maxRecDepth 100000 in
set_option maxHeartbeats 400000 in
theorem new_low (bits : Int) (n : Nat) (w : World) (hn : n ≤ 256) (b1 : bits ≤ 1) (b3 : 2 = (n : Int)) :
    Calls Try.prog 59 #[.int .i64 bits] w fun e w' => e = .returned (.pointer (some ⟨w.heap.size + 1, 0, none⟩)) ∧ MTree w' (w.heap.size + 1) w.heap.size (List.replicate n 1024) ∧ Keeps None w w' := by
  have hmk := fun w => run_make_blk (P := Try.prog) 116 119 (.int .u16 0) 2 Try.underlying116 Try.info119 rfl .i64 .i64 _ _ n b3 b3 (by omega) (by omega) w
  clear b3
  go_enter Try.func59, Try.ntmps59
  go_wp2
  go_loopw [17] (fun i wr => ∃ k : Nat, k ≤ n ∧ i = .int .i64 k ∧ Blk wr (w.heap.size + 1) [.slice (some ⟨w.heap.size, 0, none⟩) n n] 118 ∧ Blk wr w.heap.size ((laid n k).map (.int .u16)) 119 ∧ Keeps None w wr) (fun i _ => n - (intOf i).toNat)
  case atStart =>
    refine ⟨0, Nat.zero_le _, rfl, ?_, ?_, ((Keeps.refl _ _).alloc _).alloc _⟩
    · have := Blk.new (w.alloc (.cells (Array.replicate n (.int .u16 0)) 119)) [.slice (some ⟨w.heap.size, 0, none⟩) n n] 118
      simpa using this
    · have := (Blk.new w (List.replicate n (.int .u16 0)) 119).alloc (.cells #[.slice (some ⟨w.heap.size, 0, none⟩) n n] 118)
      rw [laid_zero]
      simpa using this
  case round =>
    obtain ⟨k, hk, rfl, hb1, hb2, hkp⟩ := hrel
    have c1 := hb1.cellD 0 _ rfl
    have HB1 := Lib.hid hb1
    have HB2 := Lib.hid hb2
    by_cases hlt : k < n
    · have hk2 : k < (laid n k).length := by rw [laid_length n k hk]; exact hlt
      have c2 := hb2.cellD k _ (map_getD 0 hk2)
      have c3 := hb2.frozen k
      clear hb1 hb2 hk2
      go_wp2
      go_roundw
      case rel =>
        refine ⟨k + 1, by omega, by go_num, HB1.out.setOther _ _ (by simp), ?_, hkp.setCell _ _ (by simp)⟩
        have := HB2.out.set k (.int .u16 1024)
        rw [← laid_set n k hlt, List.map_set]; exact this
      case measure => simp [intOf]; omega
    · clear hb1 hb2
      go_wp2
      go_ret
      have e : k = n := by omega
      subst e
      refine ⟨rfl, ⟨?_, ?_, by omega⟩, hkp⟩
      · simpa using HB1.out
      · rw [← laid_all]; exact HB2.out
set_option maxRecDepth 100000 in
set_option maxHeartbeats 400000 in
theorem new_high (bits : Int) (n : Nat) (w : World) (hn : n ≤ 256) (b1 : 8 < bits) (b3 : 256 = (n : Int)) :
    Calls Try.prog 59 #[.int .i64 bits] w fun e w' => e = .returned (.pointer (some ⟨w.heap.size + 1, 0, none⟩)) ∧ MTree w' (w.heap.size + 1) w.heap.size (List.replicate n 1024) ∧ Keeps None w w' := by
  have hmk := fun w => run_make_blk (P := Try.prog) 116 119 (.int .u16 0) 2 Try.underlying116 Try.info119 rfl .i64 .i64 _ _ n b3 b3 (by omega) (by omega) w
  clear b3
  go_enter Try.func59, Try.ntmps59
  go_wp2
  go_loopw [17] (fun i wr => ∃ k : Nat, k ≤ n ∧ i = .int .i64 k ∧ Blk wr (w.heap.size + 1) [.slice (some ⟨w.heap.size, 0, none⟩) n n] 118 ∧ Blk wr w.heap.size ((laid n k).map (.int .u16)) 119 ∧ Keeps None w wr) (fun i _ => n - (intOf i).toNat)
  case atStart =>
    refine ⟨0, Nat.zero_le _, rfl, ?_, ?_, ((Keeps.refl _ _).alloc _).alloc _⟩
    · have := Blk.new (w.alloc (.cells (Array.replicate n (.int .u16 0)) 119)) [.slice (some ⟨w.heap.size, 0, none⟩) n n] 118
      simpa using this
    · have := (Blk.new w (List.replicate n (.int .u16 0)) 119).alloc (.cells #[.slice (some ⟨w.heap.size, 0, none⟩) n n] 118)
      rw [laid_zero]
      simpa using this
  case round =>
    obtain ⟨k, hk, rfl, hb1, hb2, hkp⟩ := hrel
    have c1 := hb1.cellD 0 _ rfl
    have HB1 := Lib.hid hb1
    have HB2 := Lib.hid hb2
    by_cases hlt : k < n
    · have hk2 : k < (laid n k).length := by rw [laid_length n k hk]; exact hlt
      have c2 := hb2.cellD k _ (map_getD 0 hk2)
      have c3 := hb2.frozen k
      clear hb1 hb2 hk2
      go_wp2
      go_roundw
      case rel =>
        refine ⟨k + 1, by omega, by go_num, HB1.out.setOther _ _ (by simp), ?_, hkp.setCell _ _ (by simp)⟩
        have := HB2.out.set k (.int .u16 1024)
        rw [← laid_set n k hlt, List.map_set]; exact this
      case measure => simp [intOf]; omega
    · clear hb1 hb2
      go_wp2
      go_ret
      have e : k = n := by omega
      subst e
      refine ⟨rfl, ⟨?_, ?_, by omega⟩, hkp⟩
      · simpa using HB1.out
      · rw [← laid_all]; exact HB2.out

theorem new_any (bits : Int) (w : World) :
    Calls Try.prog 59 #[.int .i64 bits] w fun e w' => e = .returned (.pointer (some ⟨w.heap.size + 1, 0, none⟩)) ∧ MTree w' (w.heap.size + 1) w.heap.size (List.replicate (2 ^ szN bits) 1024) ∧ Keeps None w w' := by
  by_cases h1 : bits ≤ 1
  · have e : szN bits = 1 := by unfold szN; omega
    rw [e]; exact new_low bits 2 w (by decide) h1 rfl
  · by_cases h2 : 8 < bits
    · have e : szN bits = 8 := by unfold szN; omega
      rw [e]; exact new_high bits 256 w (by decide) h2 rfl
    · have e : szN bits = bits.toNat := by unfold szN; omega
      rw [e]
      exact new_mid bits (2 ^ bits.toNat) w (pow_le_256 (by omega)) (by omega) (pow_wrap (by omega))

/-- The chances of a new tree of the reference, k of them laid (place 0 is none's). -/
def rlaid (n k : Nat) : List Int := 0 :: (List.replicate (k - 1) 1024 ++ List.replicate (n - k) 0)
theorem rlaid_length (n k : Nat) (h : k ≤ n) (h1 : 1 ≤ k) : (rlaid n k).length = n := by simp [rlaid]; omega
theorem rlaid_set (n k : Nat) (h : k < n) (h1 : 1 ≤ k) : (rlaid n k).set k 1024 = rlaid n (k + 1) := by
  unfold rlaid
  obtain ⟨m, rfl⟩ : ∃ m, n = k + 1 + m := ⟨n - (k + 1), by omega⟩
  obtain ⟨j, rfl⟩ : ∃ j, k = j + 1 := ⟨k - 1, by omega⟩
  rw [show j + 1 + 1 + m - (j + 1) = m + 1 by omega, show j + 1 + 1 + m - (j + 1 + 1) = m by omega, List.replicate_succ, List.set_cons_succ, List.set_append]
  simp [List.replicate_succ', List.append_assoc]
theorem rlaid_one (n : Nat) (h : 1 ≤ n) : rlaid n 1 = List.replicate n 0 := by
  obtain ⟨m, rfl⟩ : ∃ m, n = m + 1 := ⟨n - 1, by omega⟩
  simp [rlaid, List.replicate_succ]
def rnewN (n : Nat) : List Int := 0 :: List.replicate (n - 1) 1024
theorem rlaid_all (n : Nat) : rlaid n n = rnewN n := by simp [rlaid, rnewN]

set_option maxRecDepth 100000 in
set_option maxHeartbeats 400000 in
theorem rnew_core (bits c : Int) (n : Nat) (w : World) (hn : n ≤ 256) (hn1 : 1 ≤ n) (b1 : 1 ≤ c) (b2 : c ≤ 8) (b3 : wrap64 (2 ^ c.toNat) = (n : Int)) (hc : max 1 (min bits 8) = c) :
    Calls Try.prog 33 #[.int .i64 bits] w fun e w' => e = .returned (.pointer (some ⟨w.heap.size, 0, none⟩)) ∧ RTree w' w.heap.size (w.heap.size + 1) c (rnewN n) ∧ Keeps None w w' := by
  have hcap : ∀ w, Calls Try.prog 48 #[.int .i64 bits, .int .i64 1, .int .i64 8] w fun e w' => e = .returned (.int .i64 c) ∧ w = w' := fun w => by rw [← hc]; exact cap_any bits 1 8 (by decide) w
  have HC := Lib.hid hcap
  have hmk := fun w => run_make_blk (P := Try.prog) 97 3 (.int .i64 0) 8 Try.underlying97 Try.info3 rfl .i64 .i64 _ _ n b3 b3 (by omega) (by omega) w
  clear b3 hcap hc
  go_enter Try.func33, Try.ntmps33
  go_wp2_with (go_at_call 48; refine (HC.out _).mono ?_; rintro e w' ⟨rfl, rfl⟩)
  go_loopw [4] (fun i wr => ∃ k : Nat, 1 ≤ k ∧ k ≤ n ∧ i = .int .i64 k ∧ Blk wr w.heap.size [.int .i64 c, .slice (some ⟨w.heap.size + 1, 0, none⟩) n n] 99 ∧ Blk wr (w.heap.size + 1) ((rlaid n k).map (.int .i64)) 3 ∧ Keeps None w wr) (fun i _ => n - (intOf i).toNat)
  case atStart =>
    refine ⟨1, Nat.le_refl _, hn1, rfl, ?_, ?_, ?_⟩
    · have := ((Blk.new w [.int .i64 c, .slice none 0 0] 99).alloc (.cells (Array.replicate n (.int .i64 0)) 3)).set 1 (.slice (some ⟨w.heap.size + 1, 0, none⟩) n n)
      simpa [World.setCell_alloc_past, World.setCell_alloc_at] using this
    · have := Blk.new (w.alloc (.cells #[.int .i64 c, .slice (some ⟨w.heap.size + 1, 0, none⟩) n n] 99)) (List.replicate n (.int .i64 0)) 3
      rw [rlaid_one n hn1]
      simpa using this
    · exact ((Keeps.refl _ _).alloc _).alloc _
  case round =>
    obtain ⟨k, hk1, hk, rfl, hb1, hb2, hkp⟩ := hrel
    have c1 := hb1.cellD 1 _ rfl
    have HB1 := Lib.hid hb1
    have HB2 := Lib.hid hb2
    by_cases hlt : k < n
    · have hk2 : k < (rlaid n k).length := by rw [rlaid_length n k hk hk1]; exact hlt
      have c2 := hb2.cellD k _ (map_getD 0 hk2)
      have c3 := hb2.frozen k
      clear hb1 hb2 hk2
      go_wp2
      go_roundw
      case rel =>
        refine ⟨k + 1, by omega, by omega, by go_num, HB1.out.setOther _ _ (by simp), ?_, hkp.setCell _ _ (by simp; omega)⟩
        have := HB2.out.set k (.int .i64 1024)
        rw [← rlaid_set n k hlt hk1, List.map_set]; exact this
      case measure => simp [intOf]; omega
    · clear hb1 hb2
      go_wp2
      go_ret
      have e : k = n := by omega
      subst e
      refine ⟨rfl, ⟨?_, ?_, by omega⟩, hkp⟩
      · have e2 : (rnewN k).length = k := by simp [rnewN]; omega
        rw [e2]; exact HB1.out
      · rw [← rlaid_all]; exact HB2.out

theorem rnew_any (bits : Int) (w : World) :
    Calls Try.prog 33 #[.int .i64 bits] w fun e w' => e = .returned (.pointer (some ⟨w.heap.size, 0, none⟩)) ∧ RTree w' w.heap.size (w.heap.size + 1) (szN bits) (rnewN (2 ^ szN bits)) ∧ Keeps None w w' := by
  have h1 := szN_lo bits
  have h8 := szN_hi bits
  have e : max 1 (min bits 8) = (szN bits : Int) := by unfold szN; omega
  exact rnew_core bits (szN bits) (2 ^ szN bits) w (pow_le_256 h8) (Nat.one_le_two_pow) (by omega) (by omega) (pow_wrap (k := szN bits) h8) e
end Go.Proofs.Ytnanbnaikmaljaa
