
/- lzlite's law: its example, its small functions. -/
import Derived.Test.YtnanbnaikmaljaaLzPXLz4
namespace Go.Proofs.Ytnanbnaikmaljaa
open Go.RowKit

theorem Own.litZ (w : World) (zs : List Int) (hz : ∀ z ∈ zs, 0 ≤ z ∧ z ≤ 255) (hl : zs.length ≤ 1000000) : Own (w.alloc (.cells (zs.map (Value.int .u8)).toArray 5)) w.heap.size (.slice (some ⟨w.heap.size, 0, none⟩) zs.length zs.length) zs := by
  refine ⟨?_, hz⟩
  have := World.ownsRow_lit (base := w.heap.size) (e := 5) (size := 1) w (zs.map (Value.int .u8)).toArray zs.length (Nat.le_refl _) (by unfold maxLen; omega) (by simp)
  simpa using this
theorem lit_bsZ (w : World) (b : Nat) (hb : b = w.heap.size) (zs : List Int) (hz : ∀ z ∈ zs, 0 ≤ z ∧ z ≤ 255) (hl : zs.length ≤ 1000000) : Bs (w.alloc (.cells (zs.map (Value.int .u8)).toArray 5)) (some ⟨b, 0, none⟩) zs.length zs.length zs := by
  subst hb
  obtain ⟨A', cap', e, hb, -⟩ := (Own.litZ w zs hz hl).shape
  cases e
  exact hb
theorem num20_any (x : Int) (w : World) : Calls Try.prog 16 #[.int .i64 x] w fun e w' => e = .returned (.int .i64 x) ∧ w = w' := by
  go_enter Try.func16, Try.ntmps16
  go_wp2
  go_ret
  exact ⟨rfl, rfl⟩
theorem lzF_byte (room : Int) (f : Nat) (z : LzS) (y : Int) (ys out : List Int) (hs : ¬ (z.st = 3 ∨ z.st = 4)) (hn : dNeedB z.d = true) : lzF room (f + 1) z (y :: ys) out = lzF room f { z with d := dByteS z.d y } ys out := by
  conv => lhs; unfold lzF
  rw [if_neg hs, if_pos hn]
theorem lzF_stop (room : Int) (f : Nat) (z : LzS) (ys out : List Int) (hs : z.st = 3 ∨ z.st = 4) : lzF room f z ys out = (z, ys, out) := by
  cases f with
  | zero => rfl
  | succ f => unfold lzF; rw [if_pos hs]
theorem lzF_end (room : Int) (f : Nat) (z : LzS) (ys out : List Int) (hs : ¬ (z.st = 3 ∨ z.st = 4)) (hn : dNeedB z.d = false) (hl : dLostB z.d = false) (hlf : ¬ 0 < z.left) (hp : z.h.length = z.plain) : lzF room (f + 1) z ys out = lzF room f { z with st := lzEndV z } ys out := by
  conv => lhs; unfold lzF
  rw [if_neg hs, if_neg (by rw [hn]; decide), if_neg (by rw [hl]; decide), if_neg hlf, if_pos hp]
theorem lzF_four (f : Nat) : (lzF 9 (f + 6) (lz0 0) [0, 0, 0, 0] []).1.st = 3 ∧ (lzF 9 (f + 6) (lz0 0) [0, 0, 0, 0] []).2.1 = [] ∧ (lzF 9 (f + 6) (lz0 0) [0, 0, 0, 0] []).2.2 = [] := by
  have hs : ¬ ((1 : Int) = 3 ∨ (1 : Int) = 4) := by decide
  have e1 : lzF 9 (f + 6) (lz0 0) [0, 0, 0, 0] [] = lzF 9 (f + 2) ⟨⟨0, 4294967295, 0⟩, rd0, [], 0, ⟨0, 0, 0⟩, 0, 1⟩ [] [] := by
    rw [lzF_byte 9 (f + 5) (lz0 0) 0 _ _ hs (by decide), lzF_byte 9 (f + 4) _ 0 _ _ hs (by decide), lzF_byte 9 (f + 3) _ 0 _ _ hs (by decide), lzF_byte 9 (f + 2) _ 0 _ _ hs (by decide)]
    rfl
  have e2 : lzF 9 (f + 2) ⟨⟨0, 4294967295, 0⟩, rd0, [], 0, ⟨0, 0, 0⟩, 0, 1⟩ [] [] = (⟨⟨0, 4294967295, 0⟩, rd0, [], 0, ⟨0, 0, 0⟩, 0, 3⟩, [], []) := by
    rw [lzF_end 9 (f + 1) _ _ _ hs (by decide) (by decide) (show ¬ (0 : Int) < 0 by decide) rfl]
    exact lzF_stop _ _ _ _ _ (.inl rfl)
  rw [e1, e2]
  exact ⟨rfl, rfl, rfl⟩
set_option maxRecDepth 100000 in
set_option maxHeartbeats 1600000 in
theorem alive20_any (w : World) : Calls Try.prog 13 #[] w fun e w' => e = .returned (.bool true) ∧ Keeps None w w' := by
  go_enter Try.func13, Try.ntmps13
  go_wp2_with fail
  refine (lznew_yes 0 w (by decide)).mono ?_
  rintro e w1 ⟨L, rfl, z1, l1, k1⟩
  have Z1 := Lib.hid z1
  have K1 := Lib.hid k1
  have L1 := Lib.hid l1
  clear z1 k1 l1
  go_wp2_with fail
  refine (num20_any _ _).mono ?_
  rintro e w' ⟨rfl, rfl⟩
  obtain ⟨wv, hwv⟩ : ∃ x, w1.alloc (.cells #[.int .u8 0, .int .u8 0, .int .u8 0, .int .u8 0] 5) = x := ⟨_, rfl⟩
  have KV : Hid (Keeps None w1 wv) := by show Keeps _ _ _; rw [← hwv]; exact (Keeps.refl None w1).alloc _
  have BV : Hid (Bs wv (some ⟨w1.heap.size, 0, none⟩) 4 4 [0, 0, 0, 0]) := by show Bs _ _ _ _ _; rw [← hwv]; exact lit_bsZ w1 _ rfl [0, 0, 0, 0] (by simp) (by decide)
  have HH := Lib.hid hwv
  have BEL := Lib.hid Z1.out.below
  have FD := Lib.hid (lzfeed_any L (lz0 0) (some ⟨w1.heap.size, 0, none⟩) 4 4 [0, 0, 0, 0] 9 wv (Z1.out.later KV.out) (LzOk.start (by decide)) BV.out (fun _ b off e hk => by cases e; have := BEL.out _ hk; omega) (by decide))
  have hM : lzM (lz0 0) 4 + 1 = 1001 + 6 := rfl
  rw [hM] at FD
  have F4 := lzF_four 1001
  generalize lzF 9 (1001 + 6) (lz0 0) [0, 0, 0, 0] [] = r at *
  obtain ⟨rz, ry, ro⟩ := r
  obtain ⟨e1, e2, e3⟩ := F4
  dsimp only at e1 e2 e3
  subst e2 e3
  have E1 := Lib.hid e1
  clear e1 hwv hM
  go_wp2_with fail
  rw [HH.out]
  refine FD.out.mono ?_
  rintro e w2 ⟨i, v, hi, hy, rfl, -, -, o2, k2⟩
  have hi4 : i = 4 := by
    have := congrArg List.length hy
    rw [List.length_drop] at this
    simp at this
    omega
  subst hi4
  obtain ⟨A2, c2, rfl, -, -⟩ := o2.shape
  have K2 := Lib.hid ((K1.out.trans KV.out (T := None) (fun _ h => h) (fun _ _ h => h)).trans k2 (T := None) (fun _ h => h) (fun k hk e => by
    have := L1.out
    have h0 := Z1.out.ne
    have e : k = L.db ∨ (L.T.g1 ≤ k ∧ k ≤ L.T.sb) ∨ k = L.wb ∨ k = L.zb := e
    omega))
  clear o2 k2 hy
  dsimp only
  rw [E1.out]
  dsimp only [List.length_nil]
  go_wp2
  go_ret
  exact ⟨by first | rfl | simp, K2.out⟩
end Go.Proofs.Ytnanbnaikmaljaa
