/- The reference's SameTokens, at tokens that are the same. -/
import Derived.Test.YtggjdkkobhefeaaTkPlain
import Derived.Test.YtggjdkkobhefeaaMix
namespace Go.Proofs.Ytggjdkkobhefeaa
open Go.RowKit

set_option maxRecDepth 100000 in
theorem rqsame_any (A B : Option Addr) (m c c' : Nat) (ts : List Tok) (w : World) (h : Ts w A m c ts) (h' : Ts w B m c' ts) : Calls Try.prog 26 #[.slice A m c, .slice B m c'] w (Tells (.bool true) w) := by
  have hle := h.le
  have hmx := h.max
  have hle' := h'.le
  have hmx' := h'.max
  have H := Lib.hid h
  have H' := Lib.hid h'
  clear h h'
  go_enter Try.func26, Try.ntmps26
  go_wp2
  go_loopw [5] (fun iv wr => ∃ (i k : Nat), i ≤ m ∧ iv = .int .i64 i ∧ wr = w.drewN k) (fun iv _ => m - (intOf iv).toNat)
  case atStart => exact ⟨0, 0, Nat.zero_le _, rfl, rfl⟩
  case round =>
    obtain ⟨i, k, him, rfl, rfl⟩ := hrel
    by_cases hlt : i < m
    · obtain ⟨bl, off, t, rfl, hi1, -, -, c1, c2, c3⟩ := (H.out.later ((Keeps.refl None w).drewN k)).get hlt
      obtain ⟨bl2, off2, t2, rfl, hi2, -, -, e1, e2, e3⟩ := (H'.out.later ((Keeps.refl None w).drewN k)).get hlt
      rw [hi1] at hi2
      obtain rfl : t = t2 := by simpa using hi2
      obtain ⟨n, d, b⟩ := t
      simp only [] at c1 c2 c3 e1 e2 e3
      clear hi1 hi2
      go_wp2
      obtain ⟨mS, mh⟩ : ∃ S : World → Prop, ∀ w', S w' ↔ (w'.cell? ⟨bl, off + i * 3, none⟩ = some (.int .i64 n) ∧ w'.cell? ⟨bl, off + i * 3 + 1, none⟩ = some (.int .i64 d) ∧ w'.cell? ⟨bl, off + i * 3 + 2, none⟩ = some (.int .u8 b) ∧ w'.cell? ⟨bl2, off2 + i * 3, none⟩ = some (.int .i64 n) ∧ w'.cell? ⟨bl2, off2 + i * 3 + 1, none⟩ = some (.int .i64 d) ∧ w'.cell? ⟨bl2, off2 + i * 3 + 2, none⟩ = some (.int .u8 b)) := ⟨_, fun _ => Iff.rfl⟩
      have mk0 : ∀ x : Memb mS, x.at_.cell? ⟨bl, off + i * 3, none⟩ = some (.int .i64 n) := fun x => ((mh _).1 x.is).1
      have mk1 : ∀ x : Memb mS, x.at_.cell? ⟨bl, off + i * 3 + 1, none⟩ = some (.int .i64 d) := fun x => ((mh _).1 x.is).2.1
      have mk2 : ∀ x : Memb mS, x.at_.cell? ⟨bl, off + i * 3 + 2, none⟩ = some (.int .u8 b) := fun x => ((mh _).1 x.is).2.2.1
      have mk3 : ∀ x : Memb mS, x.at_.cell? ⟨bl2, off2 + i * 3, none⟩ = some (.int .i64 n) := fun x => ((mh _).1 x.is).2.2.2.1
      have mk4 : ∀ x : Memb mS, x.at_.cell? ⟨bl2, off2 + i * 3 + 1, none⟩ = some (.int .i64 d) := fun x => ((mh _).1 x.is).2.2.2.2.1
      have mk5 : ∀ x : Memb mS, x.at_.cell? ⟨bl2, off2 + i * 3 + 2, none⟩ = some (.int .u8 b) := fun x => ((mh _).1 x.is).2.2.2.2.2
      have mn : Nonempty (Memb mS) := ⟨⟨((w.drewN k)).drew, (mh _).2 ⟨c1, c2, c3, e1, e2, e3⟩⟩⟩
      have mH := Lib.hid mh
      clear mh
      refine wp_region_mix [] (InS mS) (by kernel_rfl) (by kernel_rfl) (InS.mk ((mH.out _).2 ⟨c1, c2, c3, e1, e2, e3⟩)) ?_
      refine wpMix_seg 9 (by kernel_rfl) (by decide) ?_
      simp only [List.take_succ_cons, List.take_zero, List.drop_succ_cons, List.drop_zero]
      repeat (go_big_quiet_step (fail))
      refine wpQuiet_nil ?_
      refine wpMix_nil ?_
      clear mk0 mk1 mk2 mk3 mk4 mk5 mn mH
      go_wp2
      go_roundw
      case rel => exact ⟨i + 1, k + 1, hlt, by go_num, rfl⟩
      case measure => simp [intOf]; omega
    · obtain rfl : i = m := by omega
      go_wp2
      go_ret
      exact ⟨rfl, (Keeps.refl _ _).drewN _⟩
end Go.Proofs.Ytggjdkkobhefeaa
