/- The walk of token.Pack. -/
import Derived.Test.YtggjdkkobhefeaaTkPack
namespace Go.Proofs.Ytggjdkkobhefeaa
open Go.RowKit

theorem right_len : ∀ (ts : List Tok) (m : Int), rightB ts m = true → m ≤ 8192 → (ts.length : Int) ≤ 8192 - m
  | [], m, _, hm => by show ((0 : Nat) : Int) ≤ _; omega
  | t :: ts, m, h, hm => by
    obtain ⟨h1, h2, h3⟩ := rightB_cons h
    have hp := longT_pos h1
    have := right_len ts (m + longT t) h3 (by omega)
    rw [List.length_cons]; omega
theorem may_fits {t : Tok} {made : Int} (h : mayT t made = true) (hw : TokWf t) : Fits t := by
  by_cases h0 : t.n = 0
  · exact .inl ⟨h0, hw.b0, hw.b1⟩
  · have := mayT_copy h h0
    exact .inr ⟨by omega, by omega, by omega, by omega⟩
theorem pack_yes {ts : List Tok} (h : rightB ts 0 = true) : packL ts = (eRow ts (cst0, ms0)).1.l := if_pos h
theorem pack_no {ts : List Tok} (h : rightB ts 0 = false) : packL ts = [] := if_neg (by rw [h]; decide)
set_option maxRecDepth 100000 in
set_option maxHeartbeats 1600000 in
theorem tkpack_any (A : Option Addr) (m cap : Nat) (ts : List Tok) (w : World) (h : Ts w A m cap ts) : Calls Try.prog 30 #[.slice A m cap] w (Cloned w (packL ts)) := by
  have hle := h.le
  have hmx := h.max
  have H := Lib.hid h
  have HL := Lib.hid h.len
  have RT := Lib.hid (tkright_any A m cap ts w h)
  clear h
  cases hr : rightB ts 0 with
  | false =>
    rw [hr] at RT
    have PL := Lib.hid (pack_no hr)
    clear hr
    go_enter Try.func30, Try.ntmps30
    go_wp2_with fail
    refine RT.out.mono ?_
    rintro e w2 ⟨rfl, k2⟩
    have K2 := Lib.hid k2
    clear k2
    go_wp2
    go_ret
    rw [PL.out]
    exact ⟨_, rfl, Own.nil _ _, K2.out⟩
  | true =>
  rw [hr] at RT
  rw [pack_yes hr]
  obtain ⟨fin, hfin⟩ : ∃ x, eRow ts (cst0, ms0) = x := ⟨_, rfl⟩
  rw [hfin]
  have HF := Lib.hid hfin
  have HR := Lib.hid hr
  have ML : Hid (m ≤ 8192) := by show _ ≤ _; have := right_len ts 0 hr (by decide); have := HL.out; omega
  have NC := Lib.hid (fun w => cnew_any w)
  have FRS := Lib.hid (fun w => tkfresh_any w)
  clear hfin hr
  go_enter Try.func30, Try.ntmps30
  go_wp2_with fail
  refine RT.out.mono ?_
  rintro e w2 ⟨rfl, k2⟩
  have K2 := Lib.hid k2
  have K2S := Lib.hid k2.size
  clear k2 RT
  go_wp2_with fail
  refine (NC.out _).mono ?_
  rintro e w3 ⟨rfl, c3, k3⟩
  have C3 := Lib.hid c3
  have K3 := Lib.hid (K2.out.trans k3 (T := None) (fun _ h => h) (fun _ _ h => h))
  have L3 := Lib.hid c3.ltb
  clear c3 k3 K2 NC
  go_wp2_with fail
  refine (FRS.out _).mono ?_
  rintro e w4 ⟨T, rfl, tr, tlo, thi, ⟨o1, o2, o3, o4, o5⟩, k4⟩
  obtain ⟨sb, b1, g1, b2, g2, b3, g3⟩ := T
  simp only [] at tlo thi o1 o2 o3 o4 o5
  unfold magg
  simp only [ms0]
  have K4 := Lib.hid (K3.out.trans k4 (T := None) (fun _ h => h) (fun _ _ h => h))
  have C4 := Lib.hid (C3.out.keeps k4 (fun h => h) (fun h => h))
  have T4 := Lib.hid tr
  have OO : Hid (w3.heap.size < g1 ∧ b3 < w4.heap.size ∧ g1 < b1 ∧ b1 < g2 ∧ g2 < b2 ∧ b2 < g3 ∧ g3 < b3) := ⟨tlo, thi, o1, o2, o3, o4, o5⟩
  clear tr tlo thi o1 o2 o3 o4 o5 k4 K3 C3 FRS
  go_wp2
  have KA := (Keeps.refl None w4).alloc (.cells #[.int .i64 1024, .int .i64 1024, .int .i64 0, .pointer (some ⟨b1, 0, none⟩), .pointer (some ⟨b2, 0, none⟩), .pointer (some ⟨b3, 0, none⟩)] 105)
  have hcm : CMAt (w4.alloc (.cells #[.int .i64 1024, .int .i64 1024, .int .i64 0, .pointer (some ⟨b1, 0, none⟩), .pointer (some ⟨b2, 0, none⟩), .pointer (some ⟨b3, 0, none⟩)] 105)) (w2.heap.size + 1) w2.heap.size ⟨w4.heap.size, b1, g1, b2, g2, b3, g3⟩ cst0 ms0 :=
    ⟨C4.out.keeps KA (fun h => h) (fun h => h), Blk.new w4 [.int .i64 1024, .int .i64 1024, .int .i64 0, .pointer (some ⟨b1, 0, none⟩), .pointer (some ⟨b2, 0, none⟩), .pointer (some ⟨b3, 0, none⟩)] 105,
      ⟨T4.out.t1.keeps KA (fun h => h) (fun h => h), T4.out.t2.keeps KA (fun h => h) (fun h => h), T4.out.t3.keeps KA (fun h => h) (fun h => h)⟩, CGood.start, ⟨by have := OO.out; show g1 < b1; omega, by have := OO.out; show b1 < g2; omega, by have := OO.out; show g2 < b2; omega, by have := OO.out; show b2 < g3; omega, by have := OO.out; show g3 < b3; omega, by have := OO.out; show b3 < w4.heap.size; omega⟩, by have := OO.out; have := L3.out; show w2.heap.size + 1 < g1; omega, by have := OO.out; have := L3.out; show w2.heap.size < g1 ∨ _; omega⟩
  have HCM := Lib.hid hcm
  have KK := Lib.hid (K4.out.alloc (.cells #[.int .i64 1024, .int .i64 1024, .int .i64 0, .pointer (some ⟨b1, 0, none⟩), .pointer (some ⟨b2, 0, none⟩), .pointer (some ⟨b3, 0, none⟩)] 105))
  have LOW : Hid (w.heap.size ≤ w2.heap.size ∧ w2.heap.size + 1 < g1) := by
    show _ ∧ _
    have h1 := OO.out
    have h2 := L3.out
    exact ⟨K2S.out, by omega⟩
  generalize w4.heap.size = sb' at *
  generalize w4.alloc (.cells #[.int .i64 1024, .int .i64 1024, .int .i64 0, .pointer (some ⟨b1, 0, none⟩), .pointer (some ⟨b2, 0, none⟩), .pointer (some ⟨b3, 0, none⟩)] 105) = wa at *
  generalize w2.heap.size = cg at *
  clear KA hcm K4 C4 T4 OO L3
  go_loopw [14] (fun iv wr => ∃ (j g : Nat) (x : CSt × Ms) (md : Int), j ≤ m ∧ iv = .int .i64 j ∧ CMAt wr (cg + 1) g ⟨sb', b1, g1, b2, g2, b3, g3⟩ x.1 x.2 ∧ eRow (ts.drop j) x = fin ∧ rightB (ts.drop j) md = true ∧ x.1.l.length ≤ 4 + 21 * j ∧ w.heap.size ≤ g ∧ Keeps None w wr) (fun iv _ => m - (intOf iv).toNat)
  case atStart => exact ⟨0, cg, (cst0, ms0), 0, Nat.zero_le _, rfl, HCM.out, by rw [List.drop_zero]; exact HF.out, by rw [List.drop_zero]; exact HR.out, Nat.le_refl _, LOW.out.1, KK.out⟩
  case round =>
    obtain ⟨j, g, x, md, hj, rfl, hc, hf, hr, hl, hg, hk⟩ := hrel
    have HC := Lib.hid hc
    have EF := Lib.hid hf
    have RR := Lib.hid hr
    have LX := Lib.hid hl
    have GL := Lib.hid hg
    have HK := Lib.hid hk
    obtain ⟨wv, rfl⟩ : ∃ x, x = wr := ⟨_, rfl⟩
    clear hc hf hr hl hg hk HCM KK
    by_cases hlt : j < m
    · obtain ⟨bl, off, t, rfl, -, htd, hw, c1, c2, c3⟩ := (H.out.later HK.out).get hlt
      have RR2 := Lib.hid (htd ▸ RR.out)
      have EF2 : Hid (eRow (ts.drop (j + 1)) (eTok x.1 x.2 t) = fin) := by show _ = _; rw [← EF.out, htd]; rfl
      obtain ⟨r1, -, r3⟩ := rightB_cons RR2.out
      have R3 := Lib.hid r3
      have TK := Lib.hid (fun w' h => tktoken_any (cg + 1) g ⟨sb', b1, g1, b2, g2, b3, g3⟩ x.1 x.2 t w' h (may_fits r1 hw) (by have := LX.out; have := ML.out; omega))
      have LN := Lib.hid (HC.out.good.tok t).2
      unfold tagg at TK
      obtain ⟨tn, td, tb⟩ := t
      simp only [] at c1 c2 c3 TK
      have H1 := Lib.hid (HC.out.later ((Keeps.refl None wv).alloc (.cells #[.int .i64 tn, .int .i64 td, .int .u8 tb] 43)))
      have K1 := Lib.hid (HK.out.alloc (.cells #[.int .i64 tn, .int .i64 td, .int .u8 tb] 43))
      clear htd hw r1 r3 RR RR2 EF HC HK
      go_wp2_with fail
      refine (TK.out _ H1.out).mono ?_
      rintro e w5 ⟨rfl, g', hg', h5, k5⟩
      have H5 := Lib.hid h5
      have G5 : Hid (w.heap.size ≤ g') := by show _ ≤ _; rcases hg' with h | h; rw [h]; exact GL.out; exact Nat.le_trans K1.out.size h
      have K5 : Hid (Keeps None w w5) := K1.out.trans k5 (fun _ h => h) (fun k hk h => by have h1 := LOW.out; rcases h with h | h | ⟨h, -⟩; omega; have := GL.out; omega; have h : g1 ≤ k := h; omega)
      have L5 : Hid ((eTok x.1 x.2 ⟨tn, td, tb⟩).1.l.length ≤ 4 + 21 * (j + 1)) := by show _ ≤ _; have := LN.out; have := LX.out; omega
      clear h5 k5 hg' H1 K1 TK LN LX
      go_wp2
      go_roundw
      case rel => exact ⟨j + 1, g', eTok x.1 x.2 ⟨tn, td, tb⟩, _, hlt, by go_num, H5.out, EF2.out, R3.out, L5.out, G5.out, K5.out⟩
      case measure => simp [intOf]; omega
    · obtain rfl : j = m := by omega
      have RF : Hid (x = fin) := by show _ = _; rw [← EF.out, List.drop_of_length_le (by rw [HL.out]; exact Nat.le_refl _)]; rfl
      have CD := Lib.hid (cdone_any (cg + 1) g x.1.l x.1.w wv HC.out.cod (by have := LX.out; have := ML.out; omega))
      go_wp2_with fail
      refine CD.out.mono ?_
      rintro e w6 ⟨v6, rfl, o6, k6⟩
      have O6 := Lib.hid (o6.lower HK.out.size)
      have K6 := Lib.hid (HK.out.trans k6 (T := None) (fun _ h => h) (fun _ _ h => h))
      clear o6 k6
      go_wp2
      go_ret
      exact ⟨v6, rfl, RF.out ▸ O6.out, K6.out⟩
end Go.Proofs.Ytggjdkkobhefeaa
