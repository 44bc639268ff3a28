/- The example of the document. -/
import Derived.Test.YtngofnlhbhfigaaKcW
namespace Go.Proofs.Ytngofnlhbhfigaa
open Go.RowKit

def d123 (i : Nat) : Int := [1, 2, 3].getD i 0
theorem d123_byte (i : Nat) : 0 ≤ d123 i ∧ d123 i ≤ 255 := by
  match i with
  | 0 => decide
  | 1 => decide
  | 2 => decide
  | i + 3 => exact ⟨Int.le_refl _, by show (0 : Int) ≤ 255; decide⟩
theorem alive4_plain : ∃ (s1 : FS) (k1 : KS) (s2 : FS) (k2 : KS), writeK 0 2 (newF (2 : Nat)) (k0 (newF (2 : Nat)) 0) [1, 2, 3] = (s1, k1, 0) ∧ k1.word.take k1.n = [1, 2, 3] ∧ flushK 0 2 s1 k1 = (s2, k2, 0) ∧ k2.at_ = 3 ∧ s2.peekF 0 4 = [1, 2, 3, 255] ∧ Room s1 264 := by
  have hN := newF_nrm 2 (by decide) (by decide)
  have hI := start_inv hN (a := 0) (by decide) okB d123 (fun i hi => absurd hi (Nat.not_lt_zero i)) (fun i _ hi => absurd hi (by omega))
  obtain ⟨s1, k1, u1, w1, w2, w3⟩ := write_inv (N := 3) (zs := [1, 2, 3]) d123_byte okB_255 (okB_can d123_byte) hI (by decide) (by decide) (fun i _ => by show [1, 2, 3].getD i 0 = d123 (0 + i); rw [Nat.zero_add]; rfl)
  obtain ⟨s2, k2, f1, f2, f3⟩ := flush_inv (N := 3) d123_byte okB_255 (okB_can d123_byte) w2 (by rw [w3]; decide) (by decide) okB_fl
  have hr : Room (writeK 0 2 (newF (2 : Nat)) (k0 (newF (2 : Nat)) 0) [1, 2, 3]).1 264 := Room.write (by decide) (fun _ => hI.n7) hI.core.len ((newF_room 2 (by decide) (by decide)).less (by decide))
  rw [w1] at hr
  have a1 : k1.at_ = 3 := w3
  have n1 : k1.n = 3 := by rw [w2.n, a1]
  rw [a1] at f2 f3
  have hur := f2.core.ur
  refine ⟨s1, k1, s2, k2, w1, ?_, f1, f3, peek_eq (by rw [f2.core.nrm.bl]; decide) rfl fun i hi => ?_, hr⟩
  · rw [w2.held, a1, n1]; rfl
  · rw [Nat.zero_add]
    by_cases q : i < 3
    · rw [f2.core.low i q]
      match i, q with
      | 0, _ => rfl
      | 1, _ => rfl
      | 2, _ => rfl
    · have hi4 : i < 4 := hi
      obtain rfl : i = 3 := by omega
      exact f2.core.mid 3 (Nat.le_refl _) (by omega)
set_option maxRecDepth 100000 in
set_option maxHeartbeats 1600000 in
theorem alive4_any (W : World) : Calls Try.prog 50 #[] W fun e w' => e = .returned (.bool true) ∧ Keeps None W w' := by
  have N2 := Lib.hid num4_any
  obtain ⟨s1, k1, s2, k2, p1, p2, p3, p4, p5, p6⟩ := alive4_plain
  have P1 := Lib.hid p1
  have P2 := Lib.hid p2
  have P3 := Lib.hid p3
  have P4 := Lib.hid p4
  have P5 := Lib.hid p5
  have P6 := Lib.hid p6
  have PS := Lib.hid (start_new (newF_nrm 2 (by decide) (by decide)) 0 (by decide))
  have RM := Lib.hid ((newF_room 2 (by decide) (by decide)).less (show 3 * 264 ≤ 100000000 by decide))
  have EL : Hid ((newF (2 : Nat)).er.length = 2) := (newF_nrm 2 (by decide) (by decide)).el
  have NW := Lib.hid (lnew (Keeps.refl None W) ((2 : Nat) : Int))
  have EK : Hid ((k0 (newF (2 : Nat)) 0).n = 0) := rfl
  clear p1 p2 p3 p4 p5 p6
  generalize k0 (newF (2 : Nat)) 0 = kk at *
  generalize newF ((2 : Nat) : Int) = f0 at *
  go_enter Try.func50, Try.ntmps50
  go_wp2_with fail
  refine NW.out.mono ?_
  rintro e w1 ⟨q, L, rfl, hF⟩
  have HF := Lib.hid hF
  clear hF NW
  go_wp2_with fail
  refine (lgof HF.out 0 2).mono ?_
  rw [EL.out]
  rintro e w2 ⟨rfl, k2'⟩
  rw [ofF_yes (show someB 0 2 ((2 : Nat) : Int) = true from rfl), Int.zero_add]
  have H3 := Lib.hid ((HF.out.later k2').alloc (.cells #[.pointer (some ⟨q, 0, none⟩), .int .i64 0, .int .i64 2] 27))
  clear k2' HF
  go_wp2_with fail
  refine (lknew (f := 0) (c := 2) H3.out (by rw [EL.out]; decide) ((0 : Nat) : Int)).mono ?_
  rw [PS.out]
  rintro e w3 ⟨cb, rfl, h4, -, -⟩
  have H4 := Lib.hid h4
  clear h4 H3
  go_wp2_with fail
  refine (N2.out _ _).mono ?_
  rintro e w' ⟨rfl, rfl⟩
  go_wp2_with fail
  have Z1 : Hid (KB (w3.alloc (.cells #[.int .u8 1, .int .u8 2, .int .u8 3] 5)) L cb (some ⟨w3.heap.size, 0, none⟩) 3 3 [1, 2, 3]) := KB.new H4.out (litBs w3 _ rfl [1, 2, 3] (by decide) (by decide))
  refine (lkwrite (H4.out.alloc _) (fun _ => by rw [EK.out]; decide) Z1.out RM.out).mono ?_
  rw [P1.out]
  rintro e w4 ⟨rfl, L4, h5, -⟩
  have H5 := Lib.hid h5
  simp only [] at H5
  clear h5 Z1 H4 P1
  go_wp2_with fail
  refine (lkheld H5.out).mono ?_
  rw [P2.out]
  rintro e w5 ⟨v5, rfl, o5, k5⟩
  obtain ⟨A5, c5, rfl, -⟩ := slice_of_own o5
  have B5 := Lib.hid (KB.new H5.out o5)
  have H6 := Lib.hid (H5.out.later k5)
  clear o5 k5 H5 P2
  go_wp2_with fail
  refine (lkflush H6.out P6.out).mono ?_
  rw [P3.out]
  rintro e w6 ⟨rfl, L6, h7, l7⟩
  have H7 := Lib.hid h7
  simp only [] at H7
  have sc := run_str (B5.out.link l7).bs
  have e1 : strOf [1, 2, 3] = ⟨#[1, 2, 3]⟩ := rfl
  rw [e1] at sc
  have sc : (convert 22 9 (.slice A5 3 c5)).run Try.prog w6 = .ok (.string ⟨#[1, 2, 3]⟩) w6 := sc
  clear h7 l7 H6 B5 P3 e1
  go_wp2_with fail
  refine (N2.out _ _).mono ?_
  rintro e w' ⟨rfl, rfl⟩
  go_wp2_with fail
  refine (N2.out _ _).mono ?_
  rintro e w' ⟨rfl, rfl⟩
  go_wp2_with fail
  refine (lkat H7.out).mono ?_
  rintro e w' ⟨rfl, rfl⟩
  rw [P4.out]
  go_wp2_with fail
  refine (lpeek H7.out.lf 0 4).mono ?_
  rw [P5.out]
  rintro e w8 ⟨v8, rfl, o8, k8⟩
  obtain ⟨A8, c8, rfl, b8⟩ := slice_of_own o8
  have sd := run_str b8
  have e1 : strOf [1, 2, 3, 255] = ⟨#[1, 2, 3, 255]⟩ := rfl
  rw [e1] at sd
  have sd : (convert 22 9 (.slice A8 4 c8)).run Try.prog w8 = .ok (.string ⟨#[1, 2, 3, 255]⟩) w8 := sd
  have H8 := Lib.hid (H7.out.later k8)
  clear o8 k8 b8 e1 H7
  go_wp2
  go_ret
  exact ⟨by first | rfl | simp, H8.out.keeps⟩
end Go.Proofs.Ytngofnlhbhfigaa
