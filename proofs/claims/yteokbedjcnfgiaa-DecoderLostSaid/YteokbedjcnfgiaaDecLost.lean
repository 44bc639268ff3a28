/-
  For all four bytes and every probability, the law DecoderLost returns true: a decoder is lost exactly if its four bytes are 255, and one that is lost or needs a byte decodes nothing. No condition.
-/
import Derived.Test.YteokbedjcnfgiaaDecPlays
namespace Go.Proofs.Yteokbedjcnfgiaa
open Go.RowKit Go.ChangeShapes Go.WideShapes Go.ChangeAt

set_option maxRecDepth 100000 in
theorem dneed_none (w : World) : Calls Try.prog 31 #[.pointer none] w fun e w' => e = .returned (.bool false) ∧ w = w' := by
  go_enter Try.func31, Try.ntmps31
  go_wp2
  go_ret
  exact ⟨rfl, rfl⟩
set_option maxRecDepth 100000 in
theorem dclean_none (w : World) : Calls Try.prog 34 #[.pointer none] w fun e w' => e = .returned (.bool false) ∧ w = w' := by
  go_enter Try.func34, Try.ntmps34
  go_wp2
  go_ret
  exact ⟨rfl, rfl⟩
set_option maxRecDepth 100000 in
set_option maxHeartbeats 400000 in
theorem dlost_none (w : World) : Calls Try.prog 32 #[.pointer none] w fun e w' => e = .returned (.bool false) ∧ ∃ n, w' = w.drewN n := by
  go_enter Try.func32, Try.ntmps32
  go_wp2
  go_quiet (fail)
  go_wp2
  go_ret
  exact ⟨rfl, _, rfl⟩
set_option maxRecDepth 100000 in
set_option maxHeartbeats 400000 in
theorem dmay_none (w : World) : Calls Try.prog 57 #[.pointer none] w fun e w' => e = .returned (.bool false) ∧ ∃ n, w' = w.drewN n := by
  go_enter Try.func57, Try.ntmps57
  go_wp2
  go_quiet (fail)
  go_wp2
  go_ret
  exact ⟨rfl, _, rfl⟩
set_option maxRecDepth 100000 in
theorem dbyte_none (z : Int) (w : World) : Calls Try.prog 25 #[.pointer none, .int .u8 z] w fun e w' => e = .returned (.bool false) ∧ w = w' := by
  go_enter Try.func25, Try.ntmps25
  go_wp2_with (go_at_call 31; refine (dneed_none _).mono ?_; rintro e w' ⟨rfl, rfl⟩)
  go_ret
  exact ⟨rfl, rfl⟩
set_option maxRecDepth 100000 in
theorem dhalf_none (w : World) : Calls Try.prog 29 #[.pointer none] w fun e w' => e = .returned (.int .i64 0) ∧ ∃ n, w' = w.drewN n := by
  go_enter Try.func29, Try.ntmps29
  go_wp2_with (go_at_call 57; refine (dmay_none _).mono ?_; rintro e w' ⟨rfl, n, rfl⟩)
  go_ret
  exact ⟨rfl, _, rfl⟩

def cK (a b c e : Int) : Nat → Int
  | 0 => 0
  | 1 => a
  | 2 => a * 256 + b
  | 3 => (a * 256 + b) * 256 + c
  | _ => ((a * 256 + b) * 256 + c) * 256 + e
def bK (a b c e : Int) : Nat → Int
  | 0 => a
  | 1 => b
  | 2 => c
  | _ => e
theorem cK_succ (a b c e : Int) (k : Nat) (h : k < 4) : cK a b c e k * 256 + bK a b c e k = cK a b c e (k + 1) := by
  match k, h with
  | 0, _ => simp [cK, bK]
  | 1, _ => rfl
  | 2, _ => rfl
  | 3, _ => rfl
theorem cK_inv {a b c e : Int} (ha : 0 ≤ a ∧ a ≤ 255) (hb : 0 ≤ b ∧ b ≤ 255) (hc : 0 ≤ c ∧ c ≤ 255) (he : 0 ≤ e ∧ e ≤ 255) (k : Nat) (h : k ≤ 4) : DInv ⟨cK a b c e k, 4294967295, 4 - k⟩ := by
  have : k = 0 ∨ k = 1 ∨ k = 2 ∨ k = 3 ∨ k = 4 := by omega
  rcases this with rfl | rfl | rfl | rfl | rfl <;> constructor <;> simp [cK] <;> omega
theorem bK_bd {a b c e : Int} (ha : 0 ≤ a ∧ a ≤ 255) (hb : 0 ≤ b ∧ b ≤ 255) (hc : 0 ≤ c ∧ c ≤ 255) (he : 0 ≤ e ∧ e ≤ 255) (k : Nat) (h : k < 4) : 0 ≤ bK a b c e k ∧ bK a b c e k ≤ 255 := by
  match k, h with
  | 0, _ => exact ha
  | 1, _ => exact hb
  | 2, _ => exact hc
  | 3, _ => exact he
theorem bK_get (a b c e : Int) (k : Nat) (h : k < 4) : [Value.int .u8 a, .int .u8 b, .int .u8 c, .int .u8 e][k]? = some (.int .u8 (bK a b c e k)) := by
  match k, h with
  | 0, _ => rfl
  | 1, _ => rfl
  | 2, _ => rfl
  | 3, _ => rfl

-- behind the loop: #1 facts on the four bytes (done), S: not lost
set_option maxRecDepth 100000 in
set_option maxHeartbeats 1600000 in
theorem lost17_any (a b c e p : Int) (ha : 0 ≤ a ∧ a ≤ 255) (hb : 0 ≤ b ∧ b ≤ 255) (hc : 0 ≤ c ∧ c ≤ 255) (he : 0 ≤ e ∧ e ≤ 255) (W : World) :
    Calls Try.prog 5 #[.int .u8 a, .int .u8 b, .int .u8 c, .int .u8 e, .int .i64 p] W fun e w' => e = .returned (.bool true) ∧ Below W.heap.size W w' := by
  have HH := Lib.hid (fun w => hold_any p w)
  go_enter Try.func5, Try.ntmps5
  go_wp2_with (first | (go_at_call 22; refine (alive17_any _).mono ?_; rintro e w1 ⟨rfl, hk⟩) | (go_at_call 23; refine (dnew_any _).mono ?_; rintro e w2 ⟨rfl, h2, k2⟩) | (go_at_call 31; refine (dneed_none _).mono ?_; rintro e w' ⟨rfl, rfl⟩) | (go_at_call 25; refine (dbyte_none _ _).mono ?_; rintro e w' ⟨rfl, rfl⟩) | (go_at_call 32; refine (dlost_none _).mono ?_; rintro e w' ⟨rfl, n1, rfl⟩) | (go_at_call 34; refine (dclean_none _).mono ?_; rintro e w' ⟨rfl, rfl⟩) | (go_at_call 29; refine (dhalf_none _).mono ?_; rintro e w' ⟨rfl, n2, rfl⟩))
  obtain ⟨bd, hbd⟩ : ∃ b, b = w1.heap.size := ⟨_, rfl⟩
  rw [← hbd] at h2 ⊢
  have hfr : W.heap.size ≤ bd := by have := hk.size; omega
  have kk : Keeps (fun k => W.heap.size ≤ k) W w2 := (show Keeps None W w1 from ⟨hk.os, hk.tape, hk.output, hk.size, fun i hi _ => hk.block i hi⟩).trans k2 (fun _ h => h.elim) (fun _ _ h => h.elim)
  have hlt := Blk.lt h2
  clear hbd hk k2
  have hd0 : DAt ((w2.drewN (n1 + n2)).alloc (.cells #[.int .u8 a, .int .u8 b, .int .u8 c, .int .u8 e] 5)) bd 90 ⟨0, 4294967295, 4⟩ := Blk.alloc (Blk.drewN h2 _) _
  have BA : Blk ((w2.drewN (n1 + n2)).alloc (.cells #[.int .u8 a, .int .u8 b, .int .u8 c, .int .u8 e] 5)) w2.heap.size [.int .u8 a, .int .u8 b, .int .u8 c, .int .u8 e] 5 := Blk.new _ _ _
  have K0 := (kk.drewN (n1 + n2)).alloc (.cells #[.int .u8 a, .int .u8 b, .int .u8 c, .int .u8 e] 5)
  have hne : ¬ w2.heap.size = bd := by omega
  clear h2 kk hlt
  generalize (w2.drewN (n1 + n2)).alloc (.cells #[.int .u8 a, .int .u8 b, .int .u8 c, .int .u8 e] 5) = w3 at *
  generalize w2.heap.size = ab at *
  have HD0 := Lib.hid hd0
  have HBA := Lib.hid BA
  have HK0 := Lib.hid K0
  clear hd0 BA K0
  go_loopw [15] (fun i wr => ∃ k : Nat, k ≤ 4 ∧ i = .int .i64 k ∧ DAt wr bd 90 ⟨cK a b c e k, 4294967295, 4 - k⟩ ∧ Blk wr ab [.int .u8 a, .int .u8 b, .int .u8 c, .int .u8 e] 5 ∧ Keeps (fun k => W.heap.size ≤ k) W wr) (fun i _ => 4 - (intOf i).toNat)
  case atStart => exact ⟨0, Nat.zero_le _, rfl, HD0.out, HBA.out, HK0.out⟩
  case round =>
    obtain ⟨k, hk4, rfl, hd, hba, hk⟩ := hrel
    clear HD0 HBA HK0
    by_cases hlt : k < 4
    · have IV := cK_inv ha hb hc he k hk4
      have x0 := hba.cellD k _ (bK_get a b c e k hlt)
      have hx := bK_bd ha hb hc he k hlt
      have e0 : dNeedB ⟨cK a b c e k, 4294967295, 4 - k⟩ = true := by simp [dNeedB]; omega
      have em : dMayB ⟨cK a b c e k, 4294967295, 4 - k⟩ = false := by simp [dMayB]; omega
      have el : dLostB ⟨cK a b c e k, 4294967295, 4 - k⟩ = false := by simp [dLostB]; omega
      have ec : dCleanB ⟨cK a b c e k, 4294967295, 4 - k⟩ = false := by simp [dCleanB]; omega
      have e1 : dBitB ⟨cK a b c e k, 4294967295, 4 - k⟩ p = 0 := by unfold dBitB; rw [em]; rfl
      have e2 : dBitP ⟨cK a b c e k, 4294967295, 4 - k⟩ p = hold p := by unfold dBitP; rw [em]; rfl
      have e3 : dBitS ⟨cK a b c e k, 4294967295, 4 - k⟩ p = ⟨cK a b c e k, 4294967295, 4 - k⟩ := by unfold dBitS; rw [em]; rfl
      have e4 : dHalfB ⟨cK a b c e k, 4294967295, 4 - k⟩ = 0 := by unfold dHalfB; rw [em]; rfl
      have e5 : dHalfS ⟨cK a b c e k, 4294967295, 4 - k⟩ = ⟨cK a b c e k, 4294967295, 4 - k⟩ := by unfold dHalfS; rw [em]; rfl
      have e6 : dByteS ⟨cK a b c e k, 4294967295, 4 - k⟩ (bK a b c e k) = ⟨cK a b c e (k + 1), 4294967295, 4 - ((k + 1 : Nat) : Int)⟩ := by
        have h0 : (0 : Int) < 4 - k := by omega
        have h1 : (4 : Int) - k - 1 = 4 - ((k + 1 : Nat) : Int) := by omega
        show (if (0 : Int) < 4 - k then (⟨cK a b c e k * 256 + bK a b c e k, 4294967295, 4 - k - 1⟩ : DSt) else _) = _
        rw [if_pos h0, h1, cK_succ a b c e k hlt]
      have B := Lib.hid (dbit_any bd _ p wr hd IV)
      have HF := Lib.hid (fun w h => dhalf_any bd _ w h IV)
      have CL := Lib.hid (fun w h => dclean_any bd ⟨cK a b c e k, 4294967295, 4 - k⟩ w h)
      have LO := Lib.hid (fun w h => dlost_any bd ⟨cK a b c e k, 4294967295, 4 - k⟩ w h)
      have BY := Lib.hid (fun w h => dbyte_any bd _ (bK a b c e k) w h IV hx)
      rw [e1, e2, e3] at B
      rw [e4, e5] at HF
      rw [ec] at CL
      rw [el] at LO
      rw [e0, e6] at BY
      have HK := Lib.hid hk
      have HBA := Lib.hid hba
      clear e0 em el ec e1 e2 e3 e4 e5 e6 IV hd hk hba
      generalize bK a b c e k = x at *
      generalize cK a b c e k = C at *
      generalize hold p = q at *
      go_wp2_with fail
      refine B.out.mono ?_
      rintro e w4 ⟨rfl, h4, k4⟩
      go_wp2_with (go_at_call 36; refine (HH.out _).mono ?_; rintro e w' ⟨rfl, rfl⟩)
      refine (HF.out _ h4).mono ?_
      rintro e w5 ⟨rfl, h5, k5⟩
      have CL5 := Lib.hid (CL.out _ h5)
      have LO5 := Lib.hid (LO.out _ h5)
      have BY5 := Lib.hid (fun n => BY.out _ (h5.drewN n))
      clear h4 h5
      go_wp2_with (first | (go_at_call 34; refine CL5.out.mono ?_; rintro e w' ⟨rfl, rfl⟩) | (go_at_call 32; refine LO5.out.mono ?_; rintro e w6 ⟨rfl, n6, rfl⟩) | (go_at_call 25; refine (BY5.out _).mono ?_; rintro e w7 ⟨rfl, h7, k7⟩))
      go_roundw
      case rel => exact ⟨k + 1, by omega, by go_num, h7, (((HBA.out.keepsNe k4 hne).keepsNe k5 hne).drewN n6).keepsNe k7 hne, (((HK.out.start k4 hfr).start k5 hfr).drewN n6).start k7 hfr⟩
      case measure => simp [intOf]; omega
    · obtain rfl : k = 4 := by omega
      have hd' : DAt wr bd 90 ⟨cK a b c e 4, 4294967295, 0⟩ := hd
      clear hba hlt hk4
      by_cases ga : a = 255
      · have q0 : (a == 255) = true := by simpa using ga
        by_cases gb : b = 255
        · have q1 : (b == 255) = true := by simpa using gb
          by_cases gc : c = 255
          · have q2 : (c == 255) = true := by simpa using gc
            by_cases ge : e = 255
            · have q3 : (e == 255) = true := by simpa using ge
              have e0 : dNeedB ⟨cK a b c e 4, 4294967295, 0⟩ = false := rfl
              have e1 : dLostB ⟨cK a b c e 4, 4294967295, 0⟩ = true := by simp [dLostB, cK]; omega
              have em : dMayB ⟨cK a b c e 4, 4294967295, 0⟩ = false := by simp [dMayB, cK]; omega
              have e2 : dByteS ⟨cK a b c e 4, 4294967295, 0⟩ 7 = ⟨cK a b c e 4, 4294967295, 0⟩ := rfl
              have f1 : dBitB ⟨cK a b c e 4, 4294967295, 0⟩ p = 0 := by unfold dBitB; rw [em]; rfl
              have f2 : dBitP ⟨cK a b c e 4, 4294967295, 0⟩ p = hold p := by unfold dBitP; rw [em]; rfl
              have f3 : dBitS ⟨cK a b c e 4, 4294967295, 0⟩ p = ⟨cK a b c e 4, 4294967295, 0⟩ := by unfold dBitS; rw [em]; rfl
              have f4 : dHalfB ⟨cK a b c e 4, 4294967295, 0⟩ = 0 := by unfold dHalfB; rw [em]; rfl
              have f5 : dHalfS ⟨cK a b c e 4, 4294967295, 0⟩ = ⟨cK a b c e 4, 4294967295, 0⟩ := by unfold dHalfS; rw [em]; rfl
              have IV : DInv ⟨cK a b c e 4, 4294967295, 0⟩ := cK_inv ha hb hc he 4 (by decide)
              have Y := Lib.hid (dbyte_any bd _ 7 wr hd' IV (by decide))
              have N := Lib.hid (fun w h => dneed_any bd ⟨cK a b c e 4, 4294967295, 0⟩ w h)
              have L := Lib.hid (fun w h => dlost_any bd ⟨cK a b c e 4, 4294967295, 0⟩ w h)
              have B := Lib.hid (fun w h => dbit_any bd ⟨cK a b c e 4, 4294967295, 0⟩ p w h IV)
              have F := Lib.hid (fun w h => dhalf_any bd ⟨cK a b c e 4, 4294967295, 0⟩ w h IV)
              rw [e0, e2] at Y
              rw [e0] at N
              rw [e1] at L
              rw [f1, f2, f3] at B
              rw [f4, f5] at F
              have HK := Lib.hid hk
              clear e0 e1 em e2 f1 f2 f3 f4 f5 IV hd hd' hk ga gb gc ge
              generalize cK a b c e 4 = C at *
              generalize hold p = q at *
              go_wp2_with fail
              refine Y.out.mono ?_
              rintro e w4 ⟨rfl, h4, k4⟩
              have N4 := Lib.hid (N.out _ h4)
              have L4 := Lib.hid (L.out _ h4)
              have B4 := Lib.hid (fun n => B.out _ (h4.drewN n))
              clear h4
              go_wp2_with (first | (go_at_call 31; refine N4.out.mono ?_; rintro e w' ⟨rfl, rfl⟩) | (go_at_call 32; refine L4.out.mono ?_; rintro e w5 ⟨rfl, n5, rfl⟩) | (go_at_call 27; refine (B4.out _).mono ?_; rintro e w6 ⟨rfl, h6, k6⟩) | (go_at_call 36; refine (HH.out _).mono ?_; rintro e w' ⟨rfl, rfl⟩))
              refine (F.out _ h6).mono ?_
              rintro e w7 ⟨rfl, h7, k7⟩
              have N7 := Lib.hid (N.out _ h7)
              have L7 := Lib.hid (L.out _ h7)
              clear h6 h7
              go_wp2_with (first | (go_at_call 31; refine N7.out.mono ?_; rintro e w' ⟨rfl, rfl⟩) | (go_at_call 32; refine L7.out.mono ?_; rintro e w8 ⟨rfl, n8, rfl⟩))
              go_ret
              exact ⟨rfl, (((((HK.out.start k4 hfr).drewN n5).start k6 hfr).start k7 hfr).drewN n8).below (fun i hi h => by omega)⟩
            · have q3 : (e == 255) = false := by simpa using ge
              have e0 : dNeedB ⟨cK a b c e 4, 4294967295, 0⟩ = false := rfl
              have e1 : dLostB ⟨cK a b c e 4, 4294967295, 0⟩ = false := by simp [dLostB, cK]; omega
              have e2 : dByteS ⟨cK a b c e 4, 4294967295, 0⟩ 7 = ⟨cK a b c e 4, 4294967295, 0⟩ := rfl
              have Y := Lib.hid (dbyte_any bd _ 7 wr hd' (cK_inv ha hb hc he 4 (by decide)) (by decide))
              rw [e0, e2] at Y
              have IV : Hid (DInv ⟨cK a b c e 4, 4294967295, 0⟩) := cK_inv ha hb hc he 4 (by decide)
              have E1 := Lib.hid e1
              have E0 := Lib.hid e0
              have HK := Lib.hid hk
              clear e0 e1 e2 hd hd' hk ga gb gc ge
              generalize cK a b c e 4 = C at *
              go_wp2_with fail
              refine Y.out.mono ?_
              rintro e w2 ⟨rfl, h2, k2⟩
              have N := Lib.hid (dneed_any bd _ w2 h2)
              have L := Lib.hid (dlost_any bd _ w2 h2)
              rw [E0.out] at N
              rw [E1.out] at L
              have B := Lib.hid (fun n => dbit_any bd _ p (w2.drewN n) (h2.drewN n) IV.out)
              clear h2
              generalize dBitB ⟨C, 4294967295, 0⟩ p = bit at *
              generalize dBitP ⟨C, 4294967295, 0⟩ p = nx at *
              generalize dBitS ⟨C, 4294967295, 0⟩ p = s3 at *
              go_wp2_with (first | (go_at_call 31; refine N.out.mono ?_; rintro e w' ⟨rfl, rfl⟩) | (go_at_call 32; refine L.out.mono ?_; rintro e w4 ⟨rfl, n, rfl⟩) | (go_at_call 27; refine (B.out _).mono ?_; rintro e w5 ⟨rfl, h5, k5⟩))
              go_ret
              exact ⟨rfl, (((HK.out.start k2 hfr).drewN n).start k5 hfr).below (fun i hi h => by omega)⟩
          · have q2 : (c == 255) = false := by simpa using gc
            have ge : True := trivial
            have e0 : dNeedB ⟨cK a b c e 4, 4294967295, 0⟩ = false := rfl
            have e1 : dLostB ⟨cK a b c e 4, 4294967295, 0⟩ = false := by simp [dLostB, cK]; omega
            have e2 : dByteS ⟨cK a b c e 4, 4294967295, 0⟩ 7 = ⟨cK a b c e 4, 4294967295, 0⟩ := rfl
            have Y := Lib.hid (dbyte_any bd _ 7 wr hd' (cK_inv ha hb hc he 4 (by decide)) (by decide))
            rw [e0, e2] at Y
            have IV : Hid (DInv ⟨cK a b c e 4, 4294967295, 0⟩) := cK_inv ha hb hc he 4 (by decide)
            have E1 := Lib.hid e1
            have E0 := Lib.hid e0
            have HK := Lib.hid hk
            clear e0 e1 e2 hd hd' hk ga gb gc ge
            generalize cK a b c e 4 = C at *
            go_wp2_with fail
            refine Y.out.mono ?_
            rintro e w2 ⟨rfl, h2, k2⟩
            have N := Lib.hid (dneed_any bd _ w2 h2)
            have L := Lib.hid (dlost_any bd _ w2 h2)
            rw [E0.out] at N
            rw [E1.out] at L
            have B := Lib.hid (fun n => dbit_any bd _ p (w2.drewN n) (h2.drewN n) IV.out)
            clear h2
            generalize dBitB ⟨C, 4294967295, 0⟩ p = bit at *
            generalize dBitP ⟨C, 4294967295, 0⟩ p = nx at *
            generalize dBitS ⟨C, 4294967295, 0⟩ p = s3 at *
            go_wp2_with (first | (go_at_call 31; refine N.out.mono ?_; rintro e w' ⟨rfl, rfl⟩) | (go_at_call 32; refine L.out.mono ?_; rintro e w4 ⟨rfl, n, rfl⟩) | (go_at_call 27; refine (B.out _).mono ?_; rintro e w5 ⟨rfl, h5, k5⟩))
            go_ret
            exact ⟨rfl, (((HK.out.start k2 hfr).drewN n).start k5 hfr).below (fun i hi h => by omega)⟩
        · have q1 : (b == 255) = false := by simpa using gb
          have ge : True := trivial
          have gc : True := trivial
          have e0 : dNeedB ⟨cK a b c e 4, 4294967295, 0⟩ = false := rfl
          have e1 : dLostB ⟨cK a b c e 4, 4294967295, 0⟩ = false := by simp [dLostB, cK]; omega
          have e2 : dByteS ⟨cK a b c e 4, 4294967295, 0⟩ 7 = ⟨cK a b c e 4, 4294967295, 0⟩ := rfl
          have Y := Lib.hid (dbyte_any bd _ 7 wr hd' (cK_inv ha hb hc he 4 (by decide)) (by decide))
          rw [e0, e2] at Y
          have IV : Hid (DInv ⟨cK a b c e 4, 4294967295, 0⟩) := cK_inv ha hb hc he 4 (by decide)
          have E1 := Lib.hid e1
          have E0 := Lib.hid e0
          have HK := Lib.hid hk
          clear e0 e1 e2 hd hd' hk ga gb gc ge
          generalize cK a b c e 4 = C at *
          go_wp2_with fail
          refine Y.out.mono ?_
          rintro e w2 ⟨rfl, h2, k2⟩
          have N := Lib.hid (dneed_any bd _ w2 h2)
          have L := Lib.hid (dlost_any bd _ w2 h2)
          rw [E0.out] at N
          rw [E1.out] at L
          have B := Lib.hid (fun n => dbit_any bd _ p (w2.drewN n) (h2.drewN n) IV.out)
          clear h2
          generalize dBitB ⟨C, 4294967295, 0⟩ p = bit at *
          generalize dBitP ⟨C, 4294967295, 0⟩ p = nx at *
          generalize dBitS ⟨C, 4294967295, 0⟩ p = s3 at *
          go_wp2_with (first | (go_at_call 31; refine N.out.mono ?_; rintro e w' ⟨rfl, rfl⟩) | (go_at_call 32; refine L.out.mono ?_; rintro e w4 ⟨rfl, n, rfl⟩) | (go_at_call 27; refine (B.out _).mono ?_; rintro e w5 ⟨rfl, h5, k5⟩))
          go_ret
          exact ⟨rfl, (((HK.out.start k2 hfr).drewN n).start k5 hfr).below (fun i hi h => by omega)⟩
      · have q0 : (a == 255) = false := by simpa using ga
        have ge : True := trivial
        have gc : True := trivial
        have gb : True := trivial
        have e0 : dNeedB ⟨cK a b c e 4, 4294967295, 0⟩ = false := rfl
        have e1 : dLostB ⟨cK a b c e 4, 4294967295, 0⟩ = false := by simp [dLostB, cK]; omega
        have e2 : dByteS ⟨cK a b c e 4, 4294967295, 0⟩ 7 = ⟨cK a b c e 4, 4294967295, 0⟩ := rfl
        have Y := Lib.hid (dbyte_any bd _ 7 wr hd' (cK_inv ha hb hc he 4 (by decide)) (by decide))
        rw [e0, e2] at Y
        have IV : Hid (DInv ⟨cK a b c e 4, 4294967295, 0⟩) := cK_inv ha hb hc he 4 (by decide)
        have E1 := Lib.hid e1
        have E0 := Lib.hid e0
        have HK := Lib.hid hk
        clear e0 e1 e2 hd hd' hk ga gb gc ge
        generalize cK a b c e 4 = C at *
        go_wp2_with fail
        refine Y.out.mono ?_
        rintro e w2 ⟨rfl, h2, k2⟩
        have N := Lib.hid (dneed_any bd _ w2 h2)
        have L := Lib.hid (dlost_any bd _ w2 h2)
        rw [E0.out] at N
        rw [E1.out] at L
        have B := Lib.hid (fun n => dbit_any bd _ p (w2.drewN n) (h2.drewN n) IV.out)
        clear h2
        generalize dBitB ⟨C, 4294967295, 0⟩ p = bit at *
        generalize dBitP ⟨C, 4294967295, 0⟩ p = nx at *
        generalize dBitS ⟨C, 4294967295, 0⟩ p = s3 at *
        go_wp2_with (first | (go_at_call 31; refine N.out.mono ?_; rintro e w' ⟨rfl, rfl⟩) | (go_at_call 32; refine L.out.mono ?_; rintro e w4 ⟨rfl, n, rfl⟩) | (go_at_call 27; refine (B.out _).mono ?_; rintro e w5 ⟨rfl, h5, k5⟩))
        go_ret
        exact ⟨rfl, (((HK.out.start k2 hfr).drewN n).start k5 hfr).below (fun i hi h => by omega)⟩
set_option maxRecDepth 100000 in
theorem DecoderLost_lifted (os : Os) (started : os.Started) (H : Type) (enc : TypeId × Value → H) :
    ReturnsInHanded {} Try.checked os 5 .any (Rows.decoderLostSpec.pre6 enc Try.prog Try.f5 Rows.decoderLostRow.domain false) (Rows.decoderLostSpec.post enc Try.prog Try.f5 false true false false) := by
  refine returnsInHanded_of_change (C := Try.checked) Try.own started (by kernel_rfl) Try.func5
    (ChangeSpec.witness6 (enc := enc) (C := Try.checked) false ⟨#[], #[.int .u8 0, .int .u8 0, .int .u8 0, .int .u8 0, .int .i64 0], []⟩ 8 (by kernel_rfl) (by kernel_rfl) (by kernel_rfl) (by kernel_rfl)) ?_
  intro W base args ds gs before hval0 hW hcnd _
  have hval : ∀ (j : Nat) t v, Try.f5.params[j]? = some t → args[j]? = some v → Value.okWide Try.prog W .any base t v := hval0
  have hW' := hW
  obtain ⟨p, q, hA0, hV, rfl, hfz, hnd⟩ := hW
  have hA : DataW.TrodAll enc Try.prog W 0 (fun _ => true) true Try.f5.params.toList args.toList ds p := hA0
  rw [Try.params5] at hA hval
  obtain ⟨v0, vs0, d0, ds0, p0, q0, hargs, rfl, rfl, h0, r0⟩ := trodAll_cons hA
  obtain ⟨v1, vs1, d1, ds1, p1, q1, rfl, rfl, rfl, h1, r1⟩ := trodAll_cons r0
  obtain ⟨v2, vs2, d2, ds2, p2, q2, rfl, rfl, rfl, h2, r2⟩ := trodAll_cons r1
  obtain ⟨v3, vs3, d3, ds3, p3, q3, rfl, rfl, rfl, h3, r3⟩ := trodAll_cons r2
  obtain ⟨v4, vs4, d4, ds4, p4, q4, rfl, rfl, rfl, h4, r4⟩ := trodAll_cons r3
  obtain ⟨rfl, rfl, rfl⟩ := trodAll_nil r4
  obtain rfl : args = #[v0, v1, v2, v3, v4] := by cases args; simp_all
  obtain ⟨rfl, rfl⟩ := trodVars_none hV
  have k0 := h0
  have lt0 : ∀ x ∈ p0, x.block < W.heap.size := by obtain ⟨m, hm⟩ := k0; exact DataW.trod_lt m _ _ _ hm
  obtain ⟨a0, rfl, rfl, rfl, w0⟩ := open_int Try.underlying5 (hval 0 5 v0 rfl rfl) h0
  have k1 := h1
  have lt1 : ∀ x ∈ p1, x.block < W.heap.size := by obtain ⟨m, hm⟩ := k1; exact DataW.trod_lt m _ _ _ hm
  obtain ⟨a1, rfl, rfl, rfl, w1⟩ := open_int Try.underlying5 (hval 1 5 v1 rfl rfl) h1
  have k2 := h2
  have lt2 : ∀ x ∈ p2, x.block < W.heap.size := by obtain ⟨m, hm⟩ := k2; exact DataW.trod_lt m _ _ _ hm
  obtain ⟨a2, rfl, rfl, rfl, w2⟩ := open_int Try.underlying5 (hval 2 5 v2 rfl rfl) h2
  have k3 := h3
  have lt3 : ∀ x ∈ p3, x.block < W.heap.size := by obtain ⟨m, hm⟩ := k3; exact DataW.trod_lt m _ _ _ hm
  obtain ⟨a3, rfl, rfl, rfl, w3⟩ := open_int Try.underlying5 (hval 3 5 v3 rfl rfl) h3
  have k4 := h4
  have lt4 : ∀ x ∈ p4, x.block < W.heap.size := by obtain ⟨m, hm⟩ := k4; exact DataW.trod_lt m _ _ _ hm
  obtain ⟨a4, rfl, rfl, rfl, w4⟩ := open_int Try.underlying3 (hval 4 3 v4 rfl rfl) h4
  clear hA0 hval0
  refine (lost17_any a0 a1 a2 a3 a4 (wf_u8_bd w0) (wf_u8_bd w1) (wf_u8_bd w2) (wf_u8_bd w3) W).mono fun e W' ⟨he, bel⟩ => ?_
  subst he
  exact ⟨_, rfl, _, _, _, [], _, [], hW', trodAll_mk1 (shut_bool Try.underlying4 _), (trodAll_cons_mk (Below.trod Try.laidOut (by kernel_rfl) (of_decide_eq_true (by kernel_rfl)) k0 bel lt0) (trodAll_cons_mk (Below.trod Try.laidOut (by kernel_rfl) (of_decide_eq_true (by kernel_rfl)) k1 bel lt1) (trodAll_cons_mk (Below.trod Try.laidOut (by kernel_rfl) (of_decide_eq_true (by kernel_rfl)) k2 bel lt2) (trodAll_cons_mk (Below.trod Try.laidOut (by kernel_rfl) (of_decide_eq_true (by kernel_rfl)) k3 bel lt3) (trodAll_cons_mk (Below.trod Try.laidOut (by kernel_rfl) (of_decide_eq_true (by kernel_rfl)) k4 bel lt4) trodAll_mk0))))), rfl, bel.frame _, fun h => by cases h⟩

set_option maxRecDepth 100000 in
theorem DecoderLost_closed : joinedFacts Try.checked.prog 5 Try.f5 Rows.decoderLostSpec Rows.decoderLostRow = true := by
  unfold joinedFacts
  rw [closed_laid, closed_maps, closed_heard, closed_plain, closed_mayEnter, closed_lifts, closed_make]
  kernel_rfl

theorem DecoderLost_holds : Rows.DecoderLostSaid :=
  OpenClaim.holds_of_wide 5 Try.f5 rfl rfl rfl rfl rfl rfl rfl ⟨rfl, rfl, rfl, rfl, rfl⟩ rfl rfl rfl rfl rfl (by kernel_rfl) Try.func5 DecoderLost_closed
    (of_decide_eq_true (by kernel_rfl)) (by unfold Func.isWrapper; first | (rw [if_pos (by decide +kernel)]; kernel_rfl) | (rw [if_neg (by decide +kernel)]; exact ⟨rfl, rfl⟩))
    (fun os started H enc _ => DecoderLost_lifted os started H enc)
#print axioms DecoderLost_holds
end Go.Proofs.Yteokbedjcnfgiaa
