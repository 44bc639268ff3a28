/- The walk of the reference's Pack. -/
import Derived.Test.YtggjdkkobhefeaaTkPack2
namespace Go.Proofs.Ytggjdkkobhefeaa
open Go.RowKit

def rms0 : Ms := { p0 := 1024, p1 := 1024, beh := 0, bt := rnewN (2 ^ 8), lt := rnewN (2 ^ 8), dt := rnewN (2 ^ 6) }
theorem CGood.rstart : CGood cst0 rms0 := ⟨by decide, by decide, ⟨TOk.rnew 8, TOk.rnew 8, TOk.rnew 6, .inl rfl⟩⟩
/-- Alike but for the trees' places 0. -/
structure MAgree (m r : Ms) : Prop where
  p0 : r.p0 = m.p0
  p1 : r.p1 = m.p1
  beh : r.beh = m.beh
  bt : Agree m.bt r.bt
  lt : Agree m.lt r.lt
  dt : Agree m.dt r.dt
theorem MAgree.start : MAgree ms0 rms0 := ⟨rfl, rfl, rfl, Agree.new _ (by decide), Agree.new _ (by decide), Agree.new _ (by decide)⟩
theorem MAgree.pr {m r : Ms} (h : MAgree m r) : r.pr = m.pr := by unfold Ms.pr; rw [h.beh, h.p0, h.p1]
theorem MAgree.kind {m r : Ms} (h : MAgree m r) (is : Int) : MAgree (m.kind is) (r.kind is) := by
  unfold Ms.kind
  rw [h.beh]
  split
  · exact ⟨by show adapt r.p0 is = adapt m.p0 is; rw [h.p0], h.p1, rfl, h.bt, h.lt, h.dt⟩
  · exact ⟨h.p0, by show adapt r.p1 is = adapt m.p1 is; rw [h.p1], rfl, h.bt, h.lt, h.dt⟩
theorem MAgree.tok {m r : Ms} (h : MAgree m r) (c : CSt) (t : Tok) : (eTok c r t).1 = (eTok c m t).1 ∧ MAgree (eTok c m t).2 (eTok c r t).2 := by
  unfold eTok
  rw [h.pr]
  split
  · have k := h.kind 0
    have a := tRun_agree t.b.toNat 8 ⟨cBitS c m.pr 0, (m.kind 0).bt, 1⟩ ⟨cBitS c m.pr 0, (r.kind 0).bt, 1⟩ rfl rfl k.bt
    exact ⟨a.1.symm, ⟨k.p0, k.p1, k.beh, a.2, k.lt, k.dt⟩⟩
  · have k := h.kind 1
    have a := tRun_agree (t.n - 2).toNat 8 ⟨cBitS c m.pr 1, (m.kind 1).lt, 1⟩ ⟨cBitS c m.pr 1, (r.kind 1).lt, 1⟩ rfl rfl k.lt
    have a2 := tRun_agree ((t.d - 1).toNat / 64) 6 ⟨(tRun (t.n - 2).toNat 8 ⟨cBitS c m.pr 1, (m.kind 1).lt, 1⟩).c, (m.kind 1).dt, 1⟩ ⟨(tRun (t.n - 2).toNat 8 ⟨cBitS c m.pr 1, (r.kind 1).lt, 1⟩).c, (r.kind 1).dt, 1⟩ a.1 rfl k.dt
    exact ⟨by show hRun _ _ _ = hRun _ _ _; rw [a2.1], ⟨k.p0, k.p1, k.beh, k.bt, a.2, a2.2⟩⟩
theorem MAgree.row : ∀ (ts : List Tok) (c : CSt) (m r : Ms), MAgree m r → (eRow ts (c, r)).1 = (eRow ts (c, m)).1
  | [], _, _, _, _ => rfl
  | t :: ts, c, m, r, h => by
    obtain ⟨h1, h2⟩ := h.tok c t
    have := MAgree.row ts (eTok c m t).1 _ _ h2
    show (eRow ts ((eTok c r t).1, (eTok c r t).2)).1 = (eRow ts ((eTok c m t).1, (eTok c m t).2)).1
    rw [h1]; exact this
theorem rpack_yes {ts : List Tok} (h : rightB ts 0 = true) : packL ts = (eRow ts (cst0, rms0)).1.l := by
  rw [pack_yes h, MAgree.row ts cst0 ms0 rms0 MAgree.start]

theorem Own.raise {w : World} {B B' g n cap : Nat} {zs : List Int} (h : Own w B (.slice (some ⟨g, 0, none⟩) n cap) zs) (hB : B' ≤ g) : Own w B' (.slice (some ⟨g, 0, none⟩) n cap) zs := by
  refine ⟨⟨h.1.1, ?_⟩, h.2⟩
  rcases h.1.2 with hn | ⟨g', cap', cur, e, hb, rest⟩
  · exact .inl hn
  · cases e
    exact .inr ⟨g, cap, cur, rfl, hB, rest⟩
structure TL.ROrd (T : TL) : Prop where
  o1 : T.b1 < T.g1
  o2 : T.g1 < T.b2
  o3 : T.b2 < T.g2
  o4 : T.g2 < T.b3
  o5 : T.b3 < T.g3
  o6 : T.g3 < T.sb
structure RTrees (w : World) (T : TL) (m : Ms) : Prop where
  t1 : RTree w T.b1 T.g1 8 m.bt
  t2 : RTree w T.b2 T.g2 8 m.lt
  t3 : RTree w T.b3 T.g3 6 m.dt
theorem RTrees.keeps {w w' : World} {T : TL} {m : Ms} {S : Nat → Prop} (h : RTrees w T m) (hk : Keeps S w w') (hS : ∀ k, T.b1 ≤ k → k ≤ T.g3 → ¬ S k) (o : T.ROrd) : RTrees w' T m := by
  obtain ⟨o1, o2, o3, o4, o5, o6⟩ := o
  exact ⟨h.t1.keeps hk (hS _ (by omega) (by omega)) (hS _ (by omega) (by omega)), h.t2.keeps hk (hS _ (by omega) (by omega)) (hS _ (by omega) (by omega)), h.t3.keeps hk (hS _ (by omega) (by omega)) (hS _ (by omega) (by omega))⟩
structure CRAt (w : World) (b g : Nat) (T : TL) (c : CSt) (m : Ms) : Prop where
  cod : CAt w b g 144 c.l c.w
  st : Blk w T.sb [.int .i64 m.p0, .int .i64 m.p1] 41
  tr : RTrees w T m
  good : CGood c m
  ord : T.ROrd
  lo : b < T.b1
  ap : g < T.b1 ∨ T.sb < g
theorem CRAt.later {w w' : World} {b g : Nat} {T : TL} {c : CSt} {m : Ms} (h : CRAt w b g T c m) (hk : Keeps None w w') : CRAt w' b g T c m :=
  ⟨h.cod.keeps hk (fun h => h) (fun h => h), hk.blk h.st (fun h => h), h.tr.keeps hk (fun _ _ _ h => h) h.ord, h.good, h.ord, h.lo, h.ap⟩

set_option maxRecDepth 100000 in
set_option maxHeartbeats 3200000 in
theorem rtpack_any (A : Option Addr) (m cap : Nat) (ts : List Tok) (w : World) (h : Ts w A m cap ts) : Calls Try.prog 66 #[.slice A m cap] w (Cloned w (packL ts)) := by
  have hle := h.le
  have hmx := h.max
  have H := Lib.hid h
  have HL := Lib.hid h.len
  have RT := Lib.hid (rtright_any A m cap ts w h)
  clear h
  cases hr : rightB ts 0 with
  | false =>
    rw [hr] at RT
    have PL := Lib.hid (pack_no hr)
    clear hr
    go_enter Try.func66, Try.ntmps66
    go_wp2_with fail
    refine RT.out.mono ?_
    rintro e w2 ⟨rfl, k2⟩
    have K2 := Lib.hid k2
    clear k2
    go_wp2
    go_ret
    rw [PL.out]
    exact ⟨_, rfl, Own.nil _ _, K2.out⟩
  | true =>
  rw [hr] at RT
  rw [rpack_yes hr]
  obtain ⟨fin, hfin⟩ : ∃ x, eRow ts (cst0, rms0) = x := ⟨_, rfl⟩
  rw [hfin]
  have HF := Lib.hid hfin
  have HR := Lib.hid hr
  have ML : Hid (m ≤ 8192) := by show _ ≤ _; have := right_len ts 0 hr (by decide); have := HL.out; omega
  have NC := Lib.hid (fun w => rcnew_any w)
  have NT := Lib.hid (fun b w => rnew_any b w)
  clear hfin hr
  go_enter Try.func66, Try.ntmps66
  go_wp2_with fail
  refine RT.out.mono ?_
  rintro e w2 ⟨rfl, k2⟩
  have K2 := Lib.hid k2
  have K2S := Lib.hid k2.size
  clear k2 RT
  go_wp2_with fail
  refine (NC.out _).mono ?_
  rintro e w3 ⟨rfl, c3, k3⟩
  have C3 := Lib.hid c3
  have K3 := Lib.hid (K2.out.trans k3 (T := None) (fun _ h => h) (fun _ _ h => h))
  have L3 := Lib.hid c3.ltb
  clear c3 k3 K2 NC
  go_wp2_with fail
  refine (NT.out 8 w3).mono ?_
  rintro e w4 ⟨rfl, t4, k4⟩
  have C4 := Lib.hid (C3.out.keeps k4 (fun h => h) (fun h => h))
  have T4 := Lib.hid t4
  have K4 := Lib.hid (K3.out.trans k4 (T := None) (fun _ h => h) (fun _ _ h => h))
  have L4 := Lib.hid t4.2.1.lt
  clear t4 k4 C3 K3
  go_wp2_with fail
  refine (NT.out 8 w4).mono ?_
  rintro e w5 ⟨rfl, t5, k5⟩
  have C5 := Lib.hid (C4.out.keeps k5 (fun h => h) (fun h => h))
  have U5 := Lib.hid (T4.out.keeps k5 (fun h => h) (fun h => h))
  have T5 := Lib.hid t5
  have K5 := Lib.hid (K4.out.trans k5 (T := None) (fun _ h => h) (fun _ _ h => h))
  have L5 := Lib.hid t5.2.1.lt
  clear t5 k5 C4 K4 T4
  go_wp2_with fail
  refine (NT.out 6 w5).mono ?_
  rintro e w6 ⟨rfl, t6, k6⟩
  have C6 := Lib.hid (C5.out.keeps k6 (fun h => h) (fun h => h))
  have U6 := Lib.hid (U5.out.keeps k6 (fun h => h) (fun h => h))
  have V6 := Lib.hid (T5.out.keeps k6 (fun h => h) (fun h => h))
  have T6 := Lib.hid t6
  have K6 := Lib.hid (K5.out.trans k6 (T := None) (fun _ h => h) (fun _ _ h => h))
  have L6 := Lib.hid t6.2.1.lt
  clear t6 k6 C5 K5 T5 U5 NT
  go_wp2
  have KA := (Keeps.refl None w6).alloc (.cells #[.int .i64 1024, .int .i64 1024] 41)
  have hcm : CRAt (w6.alloc (.cells #[.int .i64 1024, .int .i64 1024] 41)) (w2.heap.size + 1) w2.heap.size ⟨w6.heap.size, w3.heap.size, w3.heap.size + 1, w4.heap.size, w4.heap.size + 1, w5.heap.size, w5.heap.size + 1⟩ cst0 rms0 :=
    ⟨C6.out.keeps KA (fun h => h) (fun h => h), Blk.new w6 [.int .i64 1024, .int .i64 1024] 41, ⟨U6.out.keeps KA (fun h => h) (fun h => h), V6.out.keeps KA (fun h => h) (fun h => h), T6.out.keeps KA (fun h => h) (fun h => h)⟩, CGood.rstart,
      ⟨by show w3.heap.size < w3.heap.size + 1; omega, L4.out, by show w4.heap.size < w4.heap.size + 1; omega, L5.out, by show w5.heap.size < w5.heap.size + 1; omega, L6.out⟩, by show w2.heap.size + 1 < w3.heap.size; exact L3.out, by have := L3.out; show w2.heap.size < w3.heap.size ∨ _; omega⟩
  have HCM := Lib.hid hcm
  have KK := Lib.hid (K6.out.alloc (.cells #[.int .i64 1024, .int .i64 1024] 41))
  have LW : Hid (w.heap.size ≤ w2.heap.size ∧ w2.heap.size < w2.heap.size + 1 ∧ w2.heap.size + 1 < w3.heap.size) := ⟨K2S.out, Nat.lt_succ_self _, L3.out⟩
  generalize w6.alloc (.cells #[.int .i64 1024, .int .i64 1024] 41) = wa at *
  generalize w6.heap.size = sb at *
  generalize w3.heap.size + 1 = g1 at *
  generalize w3.heap.size = b1 at *
  generalize w4.heap.size + 1 = g2 at *
  generalize w4.heap.size = b2 at *
  generalize w5.heap.size + 1 = g3 at *
  generalize w5.heap.size = b3 at *
  generalize w2.heap.size + 1 = cb at *
  generalize w2.heap.size = cg at *
  clear KA hcm K6 C6 T6 U6 V6 L3 L4 L5 L6 K2S
  go_loopw [8, 9] (fun bv iv wr => ∃ (j g : Nat) (x : CSt × Ms) (md : Int), j ≤ m ∧ iv = .int .i64 j ∧ bv = .int .i64 x.2.beh ∧ CRAt wr cb g ⟨sb, b1, g1, b2, g2, b3, g3⟩ x.1 x.2 ∧ eRow (ts.drop j) x = fin ∧ rightB (ts.drop j) md = true ∧ x.1.l.length ≤ 4 + 21 * j ∧ w.heap.size ≤ g ∧ Keeps None w wr) (fun _ iv _ => m - (intOf iv).toNat)
  case atStart => exact ⟨0, cg, (cst0, rms0), 0, Nat.zero_le _, rfl, rfl, HCM.out, by rw [List.drop_zero]; exact HF.out, by rw [List.drop_zero]; exact HR.out, Nat.le_refl _, LW.out.1, KK.out⟩
  case round =>
    obtain ⟨j, g, x, md, hj, rfl, hbv, hc, hf, hr, hl, hg, hk⟩ := hrel
    obtain ⟨c, mm⟩ := x
    simp only [] at hbv hc hf hl
    subst hbv
    have HC := Lib.hid hc
    have EF := Lib.hid hf
    have RR := Lib.hid hr
    have LX := Lib.hid hl
    have GLO := Lib.hid hg
    have HK := Lib.hid hk
    obtain ⟨wv, rfl⟩ : ∃ x, x = wr := ⟨_, rfl⟩
    clear hc hf hr hl hg hk HCM KK
    by_cases hlt : j < m
    · obtain ⟨bl, off, t, rfl, -, htd, hw, c1, c2, c3⟩ := (H.out.later HK.out).get hlt
      have RR2 := Lib.hid (htd ▸ RR.out)
      have EF2 : Hid (eRow (ts.drop (j + 1)) (eTok c mm t) = fin) := by show _ = _; rw [← EF.out, htd]; rfl
      obtain ⟨r1, -, r3⟩ := rightB_cons RR2.out
      have R3 := Lib.hid r3
      have FT := may_fits r1 hw
      have CL : Hid (c.l.length ≤ 100000000) := by show _ ≤ _; have := LX.out; have := ML.out; omega
      have GT := Lib.hid (HC.out.good.tok t).1
      have L5 : Hid ((eTok c mm t).1.l.length ≤ 4 + 21 * (j + 1)) := by show _ ≤ _; have := (HC.out.good.tok t).2; have := LX.out; omega
      have GD := Lib.hid HC.out.good
      have OR := Lib.hid HC.out.ord
      obtain ⟨o1, o2, o3, o4, o5, o6⟩ := HC.out.ord
      have hsb := HC.out.st.lt
      have hgl := HC.out.cod.ltg
      have hbl := HC.out.cod.ltb
      have hlo := HC.out.lo
      have hap := HC.out.ap
      obtain ⟨p0, p1, be, bt, lt, dt⟩ := mm
      obtain ⟨tn, td, tb⟩ := t
      simp only [] at o1 o2 o3 o4 o5 o6 hsb hlo hap c1 c2 c3
      obtain ⟨bx, hbx⟩ : ∃ x, wv.heap.size = x := ⟨_, rfl⟩
      have NE : Hid (cb < b1 ∧ (g < b1 ∨ sb < g) ∧ b1 < g1 ∧ g1 < b2 ∧ b2 < g2 ∧ g2 < b3 ∧ b3 < g3 ∧ g3 < sb ∧ sb < bx ∧ g < bx ∧ cb < bx ∧ wv.heap.size = bx) := ⟨hlo, hap, o1, o2, o3, o4, o5, o6, by omega, by omega, by omega, hbx⟩
      have LOW : Hid (w.heap.size ≤ g ∧ w.heap.size ≤ cb ∧ w.heap.size ≤ b1 ∧ w.heap.size ≤ sb) := by show _ ∧ _; have h1 := LW.out; have h2 := GLO.out; exact ⟨h2, by omega, by omega, by omega⟩
      have k1 : Keeps None wv (wv.alloc (.cells #[.int .i64 tn, .int .i64 td, .int .u8 tb] 43)) := (Keeps.refl None wv).alloc _
      have bb := Blk.new wv [.int .i64 tn, .int .i64 td, .int .u8 tb] 43
      have SZ : Hid ((wv.alloc (.cells #[.int .i64 tn, .int .i64 td, .int .u8 tb] 43)).heap.size = wv.heap.size + 1) := by show _ = _; simp
      have H1 := Lib.hid (HC.out.later k1)
      have K1 := Lib.hid (HK.out.trans k1 (T := None) (fun _ h => h) (fun _ _ h => h))
      rw [hbx] at bb
      have B1 := Lib.hid bb
      have C1 := Lib.hid H1.out.cod
      have S1 := Lib.hid H1.out.st
      have T1 := Lib.hid H1.out.tr
      have c1' := bb.cellD 0 _ rfl
      have c2' := bb.cellD 1 _ rfl
      have c3' := bb.cellD 2 _ rfl
      simp only [] at S1
      clear k1 bb o1 o2 o3 o4 o5 o6 hsb hgl hbl hlo hap htd hw r1 r3 RR RR2 EF HC HK H1
      rcases FT with ⟨h0, hb0, hb1⟩ | hcp
      · simp only [] at h0 hb0 hb1
        subst h0
        obtain ⟨tb, rfl⟩ : ∃ x : Nat, tb = x := ⟨tb.toNat, by omega⟩
        have TB8 : Hid (tb < 2 ^ 8) := by show _ < _; omega
        have tb9 : tb ≤ 255 := by omega
        have KOK := Lib.hid (GD.out.ok.kind (is := 0) (.inl rfl))
        have BW := Lib.hid (cBitS_w c (Ms.pr ⟨p0, p1, be, bt, lt, dt⟩) 0 GD.out.w0 GD.out.w1)
        have BL : Hid ((cBitS c (Ms.pr ⟨p0, p1, be, bt, lt, dt⟩) 0).l.length ≤ 100000001) := by show _ ≤ _; have := cBitS_len c (Ms.pr ⟨p0, p1, be, bt, lt, dt⟩) 0; have := CL.out; omega
        have EQ1 : Hid ((eTok c ⟨p0, p1, be, bt, lt, dt⟩ ⟨0, td, tb⟩).1 = (tRun tb 8 ⟨cBitS c (Ms.pr ⟨p0, p1, be, bt, lt, dt⟩) 0, bt, 1⟩).c) := by
          show _ = _; unfold eTok; rw [if_pos rfl]; simp only [Int.toNat_natCast]; unfold Ms.kind; split <;> rfl
        have EQ2 : Hid ((eTok c ⟨p0, p1, be, bt, lt, dt⟩ ⟨0, td, tb⟩).2 = { Ms.kind ⟨p0, p1, be, bt, lt, dt⟩ 0 with bt := (tRun tb 8 ⟨cBitS c (Ms.pr ⟨p0, p1, be, bt, lt, dt⟩) 0, bt, 1⟩).ps }) := by
          show _ = _; unfold eTok; rw [if_pos rfl]; simp only [Int.toNat_natCast]; unfold Ms.kind; split <;> rfl
        rcases GD.out.ok.be with hbe | hbe
        · simp only [] at hbe
          subst hbe
          have PV : Ms.pr ⟨p0, p1, 0, bt, lt, dt⟩ = p0 := if_pos rfl
          rw [PV] at BW BL EQ1 EQ2
          clear PV hb0 hb1
          -- the kind: 0 place of the chance, 0 the bit, p0 the chance
          have CB := Lib.hid (fun w' (h' : CAt w' cb g 144 c.l c.w) => rcbit_any cb g c.l c.w p0 0 w' h' (by have := GD.out.w0; omega) GD.out.w1 (by have := CL.out; omega))
          have s0 := S1.out.cellD 0 _ rfl
          go_wp2_with fail
          refine (CB.out _ C1.out).mono ?_
          rintro e w2 ⟨rfl, gg, hgg, h2, k2⟩
          have C2 := Lib.hid h2
          have K2 := Lib.hid k2
          have GG : Hid (gg = g ∨ wv.heap.size + 1 ≤ gg) := by show _ ∨ _; rcases hgg with h | h; exact .inl h; exact .inr (by have := SZ.out; omega)
          have S2 := Lib.hid (K2.out.blk S1.out (by show ¬ (_ ∨ _); have := NE.out; omega))
          have B2 := Lib.hid (K2.out.blk B1.out (by show ¬ (_ ∨ _); have := NE.out; omega))
          have y0 := S2.out.cellD 0 _ rfl
          have u0 := S2.out.frozen 0
          have ks := (Keeps.self sb w2).put 0 (.int .i64 (adapt p0 0))
          have S4 := Lib.hid (S2.out.set 0 (.int .i64 (adapt p0 0)))
          have B4 := Lib.hid (ks.blk B2.out (by show ¬ _ = _; have := NE.out; omega))
          have C4 := Lib.hid (C2.out.keeps ks (by show ¬ _ = _; have := NE.out; omega) (by show ¬ _ = _; have := NE.out; have := GG.out; omega))
          have K4 := Lib.hid (K2.out.trans ks (T := fun k => k = cb ∨ k = g ∨ k = sb) (fun k h => h.elim .inl (fun h => .inr (.inl h))) (fun k _ h => .inr (.inr h)))
          have T4 := Lib.hid (T1.out.keeps K4.out (fun k h1 h2 => by show ¬ (_ ∨ _ ∨ _); have h1 : b1 ≤ k := h1; have h2 : k ≤ g3 := h2; have := NE.out; omega) OR.out)
          have q0 := B2.out.cellD 0 _ rfl
          have q1 := B2.out.cellD 1 _ rfl
          have q2 := B2.out.cellD 2 _ rfl
          have ne1 : ¬ bx = sb := by have := NE.out; omega
          have ne2 : ¬ sb = bx := by have := NE.out; omega
          clear ks h2 k2 hgg S2 B2 C2 K2 S1 B1 C1 T1 CB s0
          -- a literal, behind the kind: 0 place, p0 chance, 0 beh
          have CT := Lib.hid (fun w' h1 h2 => rctree_in cb gg b1 g1 (cBitS c p0 0) bt 8 tb w' h1 h2 KOK.out.o1 BW.out.1 BW.out.2 (by have := BL.out; omega) (by have := NE.out; omega) (by have := NE.out; omega) (by have := NE.out; have := GG.out; omega) (by have := NE.out; have := GG.out; omega) TB8.out)
          go_wp2_with fail
          obtain ⟨w4, hw4⟩ : ∃ x, w2.setCell ⟨sb, 0, none⟩ (.int .i64 (adapt p0 0)) = x := ⟨_, rfl⟩
          rw [hw4] at S4 B4 C4 K4 T4
          rw [hw4]
          clear hw4 y0 u0 q0 q1 q2 ne1 ne2
          refine (CT.out _ C4.out T4.out.t1).mono ?_
          rintro e w5 ⟨rfl, gh, hgh, h5c, h5t, k5⟩
          have K5 := Lib.hid k5
          have GH : Hid (gh = gg ∨ wv.heap.size + 1 ≤ gh) := by show _ ∨ _; rcases hgh with h | h; exact .inl h; exact .inr (by have h1 := SZ.out; have h2 := K4.out.size; have h3 : w4.heap.size ≤ gh := h; omega)
          have HF5 : Hid (CRAt w5 cb gh ⟨sb, b1, g1, b2, g2, b3, g3⟩ (eTok c ⟨p0, p1, 0, bt, lt, dt⟩ ⟨0, td, tb⟩).1 (eTok c ⟨p0, p1, 0, bt, lt, dt⟩ ⟨0, td, tb⟩).2) := ⟨EQ1.out ▸ h5c, by rw [EQ2.out]; exact K5.out.blk S4.out (by show ¬ (_ ∨ _ ∨ _); have := NE.out; have := GG.out; dsimp only; omega), by rw [EQ2.out]; exact ⟨h5t, T4.out.t2.keeps K5.out (by show ¬ (_ ∨ _ ∨ _); have := NE.out; have := GG.out; dsimp only; omega) (by show ¬ (_ ∨ _ ∨ _); have := NE.out; have := GG.out; dsimp only; omega), T4.out.t3.keeps K5.out (by show ¬ (_ ∨ _ ∨ _); have := NE.out; have := GG.out; dsimp only; omega) (by show ¬ (_ ∨ _ ∨ _); have := NE.out; have := GG.out; dsimp only; omega)⟩, GT.out, OR.out, by have := NE.out; show cb < b1; omega, by have := NE.out; have := GG.out; have := GH.out; show gh < b1 ∨ sb < gh; omega⟩
          have KN : Hid (Keeps None w w5) := (K1.out.trans K4.out (T := None) (fun _ h => h) (fun k hk h => by have := NE.out; have := LOW.out; rcases h with h | h | h <;> omega)).trans K5.out (fun _ h => h) (fun k hk h => by have := NE.out; have := LOW.out; have := GG.out; have := K1.out.size; have := SZ.out; rcases h with h | h | h <;> omega)
          have GF : Hid (w.heap.size ≤ gh) := by show _ ≤ _; have := LOW.out; have := GG.out; have := GH.out; have := K1.out.size; have := SZ.out; omega
          have BF : Hid ((eTok c ⟨p0, p1, 0, bt, lt, dt⟩ ⟨0, td, tb⟩).2.beh = 0) := by show _ = _; rw [EQ2.out]; rfl
          clear hgh h5c h5t k5 CT
          have R5 := Lib.hid R3.out
          go_wp2
          go_roundw
          case rel => exact ⟨j + 1, gh, eTok c ⟨p0, p1, 0, bt, lt, dt⟩ ⟨0, td, tb⟩, _, hlt, by go_num, by rw [BF.out], HF5.out, EF2.out, R5.out, L5.out, GF.out, KN.out⟩
          case measure => simp [intOf]; omega
        · simp only [] at hbe
          subst hbe
          have PV : Ms.pr ⟨p0, p1, 1, bt, lt, dt⟩ = p1 := if_neg (show ¬ (1 : Int) = 0 by decide)
          rw [PV] at BW BL EQ1 EQ2
          clear PV hb0 hb1
          -- the kind: 1 place of the chance, 0 the bit, p1 the chance
          have CB := Lib.hid (fun w' (h' : CAt w' cb g 144 c.l c.w) => rcbit_any cb g c.l c.w p1 0 w' h' (by have := GD.out.w0; omega) GD.out.w1 (by have := CL.out; omega))
          have s0 := S1.out.cellD 1 _ rfl
          go_wp2_with fail
          refine (CB.out _ C1.out).mono ?_
          rintro e w2 ⟨rfl, gg, hgg, h2, k2⟩
          have C2 := Lib.hid h2
          have K2 := Lib.hid k2
          have GG : Hid (gg = g ∨ wv.heap.size + 1 ≤ gg) := by show _ ∨ _; rcases hgg with h | h; exact .inl h; exact .inr (by have := SZ.out; omega)
          have S2 := Lib.hid (K2.out.blk S1.out (by show ¬ (_ ∨ _); have := NE.out; omega))
          have B2 := Lib.hid (K2.out.blk B1.out (by show ¬ (_ ∨ _); have := NE.out; omega))
          have y0 := S2.out.cellD 1 _ rfl
          have u0 := S2.out.frozen 1
          have ks := (Keeps.self sb w2).put 1 (.int .i64 (adapt p1 0))
          have S4 := Lib.hid (S2.out.set 1 (.int .i64 (adapt p1 0)))
          have B4 := Lib.hid (ks.blk B2.out (by show ¬ _ = _; have := NE.out; omega))
          have C4 := Lib.hid (C2.out.keeps ks (by show ¬ _ = _; have := NE.out; omega) (by show ¬ _ = _; have := NE.out; have := GG.out; omega))
          have K4 := Lib.hid (K2.out.trans ks (T := fun k => k = cb ∨ k = g ∨ k = sb) (fun k h => h.elim .inl (fun h => .inr (.inl h))) (fun k _ h => .inr (.inr h)))
          have T4 := Lib.hid (T1.out.keeps K4.out (fun k h1 h2 => by show ¬ (_ ∨ _ ∨ _); have h1 : b1 ≤ k := h1; have h2 : k ≤ g3 := h2; have := NE.out; omega) OR.out)
          have q0 := B2.out.cellD 0 _ rfl
          have q1 := B2.out.cellD 1 _ rfl
          have q2 := B2.out.cellD 2 _ rfl
          have ne1 : ¬ bx = sb := by have := NE.out; omega
          have ne2 : ¬ sb = bx := by have := NE.out; omega
          clear ks h2 k2 hgg S2 B2 C2 K2 S1 B1 C1 T1 CB s0
          -- a literal, behind the kind: 1 place, p1 chance, 1 beh
          have CT := Lib.hid (fun w' h1 h2 => rctree_in cb gg b1 g1 (cBitS c p1 0) bt 8 tb w' h1 h2 KOK.out.o1 BW.out.1 BW.out.2 (by have := BL.out; omega) (by have := NE.out; omega) (by have := NE.out; omega) (by have := NE.out; have := GG.out; omega) (by have := NE.out; have := GG.out; omega) TB8.out)
          go_wp2_with fail
          obtain ⟨w4, hw4⟩ : ∃ x, w2.setCell ⟨sb, 1, none⟩ (.int .i64 (adapt p1 0)) = x := ⟨_, rfl⟩
          rw [hw4] at S4 B4 C4 K4 T4
          rw [hw4]
          clear hw4 y0 u0 q0 q1 q2 ne1 ne2
          refine (CT.out _ C4.out T4.out.t1).mono ?_
          rintro e w5 ⟨rfl, gh, hgh, h5c, h5t, k5⟩
          have K5 := Lib.hid k5
          have GH : Hid (gh = gg ∨ wv.heap.size + 1 ≤ gh) := by show _ ∨ _; rcases hgh with h | h; exact .inl h; exact .inr (by have h1 := SZ.out; have h2 := K4.out.size; have h3 : w4.heap.size ≤ gh := h; omega)
          have HF5 : Hid (CRAt w5 cb gh ⟨sb, b1, g1, b2, g2, b3, g3⟩ (eTok c ⟨p0, p1, 1, bt, lt, dt⟩ ⟨0, td, tb⟩).1 (eTok c ⟨p0, p1, 1, bt, lt, dt⟩ ⟨0, td, tb⟩).2) := ⟨EQ1.out ▸ h5c, by rw [EQ2.out]; exact K5.out.blk S4.out (by show ¬ (_ ∨ _ ∨ _); have := NE.out; have := GG.out; dsimp only; omega), by rw [EQ2.out]; exact ⟨h5t, T4.out.t2.keeps K5.out (by show ¬ (_ ∨ _ ∨ _); have := NE.out; have := GG.out; dsimp only; omega) (by show ¬ (_ ∨ _ ∨ _); have := NE.out; have := GG.out; dsimp only; omega), T4.out.t3.keeps K5.out (by show ¬ (_ ∨ _ ∨ _); have := NE.out; have := GG.out; dsimp only; omega) (by show ¬ (_ ∨ _ ∨ _); have := NE.out; have := GG.out; dsimp only; omega)⟩, GT.out, OR.out, by have := NE.out; show cb < b1; omega, by have := NE.out; have := GG.out; have := GH.out; show gh < b1 ∨ sb < gh; omega⟩
          have KN : Hid (Keeps None w w5) := (K1.out.trans K4.out (T := None) (fun _ h => h) (fun k hk h => by have := NE.out; have := LOW.out; rcases h with h | h | h <;> omega)).trans K5.out (fun _ h => h) (fun k hk h => by have := NE.out; have := LOW.out; have := GG.out; have := K1.out.size; have := SZ.out; rcases h with h | h | h <;> omega)
          have GF : Hid (w.heap.size ≤ gh) := by show _ ≤ _; have := LOW.out; have := GG.out; have := GH.out; have := K1.out.size; have := SZ.out; omega
          have BF : Hid ((eTok c ⟨p0, p1, 1, bt, lt, dt⟩ ⟨0, td, tb⟩).2.beh = 0) := by show _ = _; rw [EQ2.out]; rfl
          clear hgh h5c h5t k5 CT
          have R5 := Lib.hid R3.out
          go_wp2
          go_roundw
          case rel => exact ⟨j + 1, gh, eTok c ⟨p0, p1, 1, bt, lt, dt⟩ ⟨0, td, tb⟩, _, hlt, by go_num, by rw [BF.out], HF5.out, EF2.out, R5.out, L5.out, GF.out, KN.out⟩
          case measure => simp [intOf]; omega
      · simp only [] at hcp
        obtain ⟨n0, n1, dl, dh⟩ := hcp
        obtain ⟨nv, hnv⟩ : ∃ x : Nat, (tn - 2).toNat = x := ⟨_, rfl⟩
        obtain ⟨dd, hdd⟩ : ∃ x : Nat, (td - 1).toNat = x := ⟨_, rfl⟩
        obtain ⟨d6, hd6⟩ : ∃ x : Nat, dd / 64 = x := ⟨_, rfl⟩
        have NV8 : Hid (nv < 2 ^ 8) := by show _ < _; omega
        have DD : Hid (dd < 4096) := by show _ < _; omega
        have D6 : Hid (dd / 64 = d6) := hd6
        have i1 : IntKind.i64.wrap (tn - 2) = nv := by rw [show tn - 2 = (nv : Int) by omega]; exact wrap_nat _ (by omega)
        have i2 : IntKind.i64.wrap (td - 1) = dd := by rw [show td - 1 = (dd : Int) by omega]; exact wrap_nat _ (by omega)
        have i3 : ((dd : Int) / 64) = d6 := by omega
        have d69 : d6 ≤ 63 := by omega
        have dd49 : dd ≤ 4095 := by omega
        have h0 : tn ≠ 0 := by omega
        have dpos : decide (0 < tn) = true := decide_eq_true (by omega)
        have KOK := Lib.hid (GD.out.ok.kind (is := 1) (.inr rfl))
        have BW := Lib.hid (cBitS_w c (Ms.pr ⟨p0, p1, be, bt, lt, dt⟩) 1 GD.out.w0 GD.out.w1)
        have BL : Hid ((cBitS c (Ms.pr ⟨p0, p1, be, bt, lt, dt⟩) 1).l.length ≤ 100000001) := by show _ ≤ _; have := cBitS_len c (Ms.pr ⟨p0, p1, be, bt, lt, dt⟩) 1; have := CL.out; omega
        have TG := Lib.hid (tRun_good nv 8 (s := cBitS c (Ms.pr ⟨p0, p1, be, bt, lt, dt⟩) 1) (ps := lt) GD.out.ok.o2 BW.out.1 BW.out.2)
        have EQ1 : Hid ((eTok c ⟨p0, p1, be, bt, lt, dt⟩ ⟨tn, td, tb⟩).1 = hRun dd 6 (tRun d6 6 ⟨(tRun nv 8 ⟨cBitS c (Ms.pr ⟨p0, p1, be, bt, lt, dt⟩) 1, lt, 1⟩).c, dt, 1⟩).c) := by
          show _ = _; unfold eTok; rw [if_neg h0]; simp only []; rw [hnv, hdd, hd6]; unfold Ms.kind; split <;> rfl
        have EQ2 : Hid ((eTok c ⟨p0, p1, be, bt, lt, dt⟩ ⟨tn, td, tb⟩).2 = { Ms.kind ⟨p0, p1, be, bt, lt, dt⟩ 1 with lt := (tRun nv 8 ⟨cBitS c (Ms.pr ⟨p0, p1, be, bt, lt, dt⟩) 1, lt, 1⟩).ps, dt := (tRun d6 6 ⟨(tRun nv 8 ⟨cBitS c (Ms.pr ⟨p0, p1, be, bt, lt, dt⟩) 1, lt, 1⟩).c, dt, 1⟩).ps }) := by
          show _ = _; unfold eTok; rw [if_neg h0]; simp only []; rw [hnv, hdd, hd6]; unfold Ms.kind; split <;> rfl
        clear hnv hdd hd6
        rcases GD.out.ok.be with hbe | hbe
        · simp only [] at hbe
          subst hbe
          have PV : Ms.pr ⟨p0, p1, 0, bt, lt, dt⟩ = p0 := if_pos rfl
          rw [PV] at BW BL EQ1 EQ2 TG
          clear PV h0
          -- the kind: 0 place of the chance, 1 the bit, p0 the chance
          have CB := Lib.hid (fun w' (h' : CAt w' cb g 144 c.l c.w) => rcbit_any cb g c.l c.w p0 1 w' h' (by have := GD.out.w0; omega) GD.out.w1 (by have := CL.out; omega))
          have s0 := S1.out.cellD 0 _ rfl
          go_wp2_with fail
          refine (CB.out _ C1.out).mono ?_
          rintro e w2 ⟨rfl, gg, hgg, h2, k2⟩
          have C2 := Lib.hid h2
          have K2 := Lib.hid k2
          have GG : Hid (gg = g ∨ wv.heap.size + 1 ≤ gg) := by show _ ∨ _; rcases hgg with h | h; exact .inl h; exact .inr (by have := SZ.out; omega)
          have S2 := Lib.hid (K2.out.blk S1.out (by show ¬ (_ ∨ _); have := NE.out; omega))
          have B2 := Lib.hid (K2.out.blk B1.out (by show ¬ (_ ∨ _); have := NE.out; omega))
          have y0 := S2.out.cellD 0 _ rfl
          have u0 := S2.out.frozen 0
          have ks := (Keeps.self sb w2).put 0 (.int .i64 (adapt p0 1))
          have S4 := Lib.hid (S2.out.set 0 (.int .i64 (adapt p0 1)))
          have B4 := Lib.hid (ks.blk B2.out (by show ¬ _ = _; have := NE.out; omega))
          have C4 := Lib.hid (C2.out.keeps ks (by show ¬ _ = _; have := NE.out; omega) (by show ¬ _ = _; have := NE.out; have := GG.out; omega))
          have K4 := Lib.hid (K2.out.trans ks (T := fun k => k = cb ∨ k = g ∨ k = sb) (fun k h => h.elim .inl (fun h => .inr (.inl h))) (fun k _ h => .inr (.inr h)))
          have T4 := Lib.hid (T1.out.keeps K4.out (fun k h1 h2 => by show ¬ (_ ∨ _ ∨ _); have h1 : b1 ≤ k := h1; have h2 : k ≤ g3 := h2; have := NE.out; omega) OR.out)
          have q0 := B2.out.cellD 0 _ rfl
          have q1 := B2.out.cellD 1 _ rfl
          have q2 := B2.out.cellD 2 _ rfl
          have ne1 : ¬ bx = sb := by have := NE.out; omega
          have ne2 : ¬ sb = bx := by have := NE.out; omega
          clear ks h2 k2 hgg S2 B2 C2 K2 S1 B1 C1 T1 CB s0
          -- a copy, behind the kind: 0 place, p0 chance, 0 beh
          have CT := Lib.hid (fun w' h1 h2 => rctree_in cb gg b2 g2 (cBitS c p0 1) lt 8 nv w' h1 h2 KOK.out.o2 BW.out.1 BW.out.2 (by have := BL.out; omega) (by have := NE.out; omega) (by have := NE.out; omega) (by have := NE.out; have := GG.out; omega) (by have := NE.out; have := GG.out; omega) NV8.out)
          have CT2 := Lib.hid (fun gh w' (hgh : gh = gg ∨ wv.heap.size + 1 ≤ gh) h1 h2 => rctree_in cb gh b3 g3 (tRun nv 8 ⟨cBitS c p0 1, lt, 1⟩).c dt 6 d6 w' h1 h2 KOK.out.o3 TG.out.2.1 TG.out.2.2.1 (by have := BL.out; have := TG.out.2.2.2; omega) (by have := NE.out; omega) (by have := NE.out; omega) (by have := NE.out; have := GG.out; omega) (by have := NE.out; have := GG.out; omega) (by show _ < 64; have := DD.out; have := D6.out; omega))
          go_wp2_with fail
          obtain ⟨w4, hw4⟩ : ∃ x, w2.setCell ⟨sb, 0, none⟩ (.int .i64 (adapt p0 1)) = x := ⟨_, rfl⟩
          rw [hw4] at S4 B4 C4 K4 T4
          rw [hw4]
          clear hw4 y0 u0 q0 q1 q2 ne1 ne2
          refine (CT.out _ C4.out T4.out.t2).mono ?_
          rintro e w5 ⟨rfl, gh, hgh, h5c, h5t, k5⟩
          have K5 := Lib.hid k5
          have H5C := Lib.hid h5c
          have H5T := Lib.hid h5t
          have GH : Hid (gh = gg ∨ wv.heap.size + 1 ≤ gh) := by show _ ∨ _; rcases hgh with h | h; exact .inl h; exact .inr (by have h1 := SZ.out; have h2 := K4.out.size; have h3 : w4.heap.size ≤ gh := h; omega)
          have S5 := Lib.hid (K5.out.blk S4.out (by show ¬ (_ ∨ _ ∨ _); have := NE.out; have := GG.out; omega))
          have B5 := Lib.hid (K5.out.blk B4.out (by show ¬ (_ ∨ _ ∨ _); have := NE.out; have := GG.out; omega))
          have X5 := Lib.hid (T4.out.t1.keeps K5.out (by show ¬ (_ ∨ _ ∨ _); have := NE.out; have := GG.out; dsimp only; omega) (by show ¬ (_ ∨ _ ∨ _); have := NE.out; have := GG.out; dsimp only; omega))
          have Y5 := Lib.hid (T4.out.t3.keeps K5.out (by show ¬ (_ ∨ _ ∨ _); have := NE.out; have := GG.out; dsimp only; omega) (by show ¬ (_ ∨ _ ∨ _); have := NE.out; have := GG.out; dsimp only; omega))
          have d5 := B5.out.cellD 1 _ rfl
          have e5 := B5.out.cellD 0 _ rfl
          clear k5 h5c h5t hgh CT S4 B4 C4 T4
          go_wp2_with fail
          refine (CT2.out gh _ GH.out H5C.out Y5.out).mono ?_
          rintro e w6 ⟨rfl, gi, hgi, h6c, h6t, k6⟩
          have K6 := Lib.hid k6
          have H6C := Lib.hid h6c
          have H6T := Lib.hid h6t
          have GI : Hid (gi = gh ∨ wv.heap.size + 1 ≤ gi) := by show _ ∨ _; rcases hgi with h | h; exact .inl h; exact .inr (by have h1 := SZ.out; have h2 := K4.out.size; have h3 := K5.out.size; have h4 : w5.heap.size ≤ gi := h; omega)
          have S6 := Lib.hid (K6.out.blk S5.out (by show ¬ (_ ∨ _ ∨ _); have := NE.out; have := GG.out; have := GH.out; omega))
          have B6 := Lib.hid (K6.out.blk B5.out (by show ¬ (_ ∨ _ ∨ _); have := NE.out; have := GG.out; have := GH.out; omega))
          have X6 := Lib.hid (X5.out.keeps K6.out (by show ¬ (_ ∨ _ ∨ _); have := NE.out; have := GG.out; have := GH.out; omega) (by show ¬ (_ ∨ _ ∨ _); have := NE.out; have := GG.out; have := GH.out; omega))
          have Y6 := Lib.hid (H5T.out.keeps K6.out (by show ¬ (_ ∨ _ ∨ _); have := NE.out; have := GG.out; have := GH.out; omega) (by show ¬ (_ ∨ _ ∨ _); have := NE.out; have := GG.out; have := GH.out; omega))
          have KF : Hid (Keeps None w w6) := ((K1.out.trans K4.out (T := None) (fun _ h => h) (fun k hk h => by have := NE.out; have := LOW.out; rcases h with h | h | h <;> omega)).trans K5.out (fun _ h => h) (fun k hk h => by have := NE.out; have := LOW.out; have := GG.out; have := K1.out.size; have := SZ.out; rcases h with h | h | h <;> omega)).trans K6.out (fun _ h => h) (fun k hk h => by have := NE.out; have := LOW.out; have := GG.out; have := GH.out; have := K1.out.size; have := SZ.out; rcases h with h | h | h <;> omega)
          have SZ6 : Hid (wv.heap.size + 1 ≤ w6.heap.size) := by show _ ≤ _; have h1 := SZ.out; have h2 := K4.out.size; have h3 := K5.out.size; have h4 := K6.out.size; omega
          have HF := Lib.hid (show hRun dd 6 (tRun d6 6 ⟨(tRun nv 8 ⟨cBitS c p0 1, lt, 1⟩).c, dt, 1⟩).c = (eTok c ⟨p0, p1, 0, bt, lt, dt⟩ ⟨tn, td, tb⟩).1 from EQ1.out.symm)
          obtain ⟨cx, hcx⟩ : ∃ x, (tRun d6 6 ⟨(tRun nv 8 ⟨cBitS c p0 1, lt, 1⟩).c, dt, 1⟩).c = x := ⟨_, rfl⟩
          have CXG : Hid (16777216 ≤ cx.w ∧ cx.w < 4294967296 ∧ cx.l.length ≤ 100000100) := by
            show _ ∧ _
            have a := tRun_good d6 6 (s := (tRun nv 8 ⟨cBitS c p0 1, lt, 1⟩).c) (ps := dt) GD.out.ok.o3 TG.out.2.1 TG.out.2.2.1
            have b1 := TG.out.2.2.2
            have b2 := BL.out
            rw [← hcx]
            exact ⟨a.2.1, a.2.2.1, by have := a.2.2.2; omega⟩
          rw [hcx] at H6C HF
          have BF : Hid ((eTok c ⟨p0, p1, 0, bt, lt, dt⟩ ⟨tn, td, tb⟩).2.beh = 1) := by show _ = _; rw [EQ2.out]; rfl
          clear hcx k6 h6c h6t hgi d5 e5 CT2 S5 B5 X5 Y5 H5C H5T K4 K5 K6
          go_wp2
          go_loopw [12] (fun iv wr => ∃ (jj gk : Nat) (cy : CSt), jj ≤ 6 ∧ iv = .int .i64 ((jj : Int) - 1) ∧ (gk = g ∨ wv.heap.size + 1 ≤ gk) ∧ CAt wr cb gk 144 cy.l cy.w ∧ (16777216 ≤ cy.w ∧ cy.w < 4294967296 ∧ cy.l.length + jj ≤ 100000106) ∧ hRun dd jj cy = (eTok c ⟨p0, p1, 0, bt, lt, dt⟩ ⟨tn, td, tb⟩).1 ∧ Blk wr sb [.int .i64 (eTok c ⟨p0, p1, 0, bt, lt, dt⟩ ⟨tn, td, tb⟩).2.p0, .int .i64 (eTok c ⟨p0, p1, 0, bt, lt, dt⟩ ⟨tn, td, tb⟩).2.p1] 41 ∧ RTrees wr ⟨sb, b1, g1, b2, g2, b3, g3⟩ (eTok c ⟨p0, p1, 0, bt, lt, dt⟩ ⟨tn, td, tb⟩).2 ∧ Blk wr bx [.int .i64 tn, .int .i64 td, .int .u8 tb] 43 ∧ wv.heap.size + 1 ≤ wr.heap.size ∧ Keeps None w wr) (fun iv _ => (intOf iv + 1).toNat)
          case atStart => exact ⟨6, gi, cx, Nat.le_refl _, rfl, by have := GG.out; have := GH.out; have := GI.out; omega, H6C.out, ⟨CXG.out.1, CXG.out.2.1, by have := CXG.out.2.2; omega⟩, HF.out, by rw [EQ2.out]; exact S6.out, by rw [EQ2.out]; exact ⟨X6.out, Y6.out, H6T.out⟩, B6.out, SZ6.out, KF.out⟩
          case round =>
            obtain ⟨jj, gk, cy, hjj, hi, hgk, hc, hg, hr, hst, htr, hbx2, hsz, hk⟩ := hrel
            have SZW := Lib.hid hsz
            have CY := Lib.hid hc
            have CG := Lib.hid hg
            have HR := Lib.hid hr
            have ST := Lib.hid hst
            have TR := Lib.hid htr
            have HK := Lib.hid hk
            have GK := Lib.hid hgk
            have BX := Lib.hid hbx2
            obtain ⟨wi, rfl⟩ : ∃ x, x = wr := ⟨_, rfl⟩
            clear hc hg hr hst htr hk hgk hsz hbx2 SZ6 S6 X6 Y6 H6T H6C KF CXG HF B6
            cases jj with
            | zero =>
              have e0 : ((0 : Nat) : Int) - 1 = -1 := rfl
              rw [e0] at hi
              subst hi
              have e1 : cy = (eTok c ⟨p0, p1, 0, bt, lt, dt⟩ ⟨tn, td, tb⟩).1 := HR.out
              have CF : Hid (CAt wi cb gk 144 (eTok c ⟨p0, p1, 0, bt, lt, dt⟩ ⟨tn, td, tb⟩).1.l (eTok c ⟨p0, p1, 0, bt, lt, dt⟩ ⟨tn, td, tb⟩).1.w) := e1 ▸ CY.out
              have GF : Hid (w.heap.size ≤ gk) := by show _ ≤ _; have := LOW.out; have := GK.out; have := K1.out.size; have := SZ.out; omega
              have HF9 : Hid (CRAt wi cb gk ⟨sb, b1, g1, b2, g2, b3, g3⟩ (eTok c ⟨p0, p1, 0, bt, lt, dt⟩ ⟨tn, td, tb⟩).1 (eTok c ⟨p0, p1, 0, bt, lt, dt⟩ ⟨tn, td, tb⟩).2) := ⟨CF.out, ST.out, TR.out, GT.out, OR.out, by have := NE.out; show cb < b1; omega, by have := NE.out; have := GK.out; show gk < b1 ∨ sb < gk; omega⟩
              clear e0 e1
              have R5 := Lib.hid R3.out
              go_wp2
              go_roundw
              case rel => exact ⟨j + 1, gk, eTok c ⟨p0, p1, 0, bt, lt, dt⟩ ⟨tn, td, tb⟩, _, hlt, by go_num, by rw [BF.out], HF9.out, EF2.out, R5.out, L5.out, GF.out, HK.out⟩
              case measure => simp [intOf]; omega
            | succ i =>
              have e0 : ((i + 1 : Nat) : Int) - 1 = i := by omega
              rw [e0] at hi
              subst hi
              have ev := bit_of2 dd i (by have := DD.out; omega)
              obtain ⟨v0, v1⟩ := vbit_bd dd i
              have CH := Lib.hid (fun w' h1 => rchalf_any cb gk cy.l cy.w (vbit dd i) w' h1 (by have := CG.out; omega) CG.out.2.1 (by have := CG.out; omega))
              have NX : Hid (hRun dd i ⟨cHalfL cy.l cy.w (vbit dd i), cHalfW cy.w⟩ = (eTok c ⟨p0, p1, 0, bt, lt, dt⟩ ⟨tn, td, tb⟩).1) := HR.out
              have NG := Lib.hid (half_good (c := cy) (vbit dd i) CG.out.1 CG.out.2.1)
              have dd9 := DD.out
              have i5 : i ≤ 5 := by omega
              have x1 := BX.out.cellD 1 _ rfl
              clear e0 HR
              go_wp2_with fail
              refine (CH.out _ CY.out).mono ?_
              rintro e w8 ⟨rfl, gl, hgl, h8, k8⟩
              have K8 := Lib.hid k8
              have H8 := Lib.hid h8
              have GL : Hid (gl = g ∨ wv.heap.size + 1 ≤ gl) := by show _ ∨ _; have := GK.out; rcases hgl with h | h; rw [h]; exact this; exact .inr (by have h2 := SZW.out; omega)
              have SZX : Hid (wv.heap.size + 1 ≤ w8.heap.size) := Nat.le_trans SZW.out K8.out.size
              have NGL := Lib.hid CG.out.2.2
              have S8 := Lib.hid (K8.out.blk ST.out (by show ¬ (_ ∨ _); have := NE.out; have := GK.out; omega))
              have B8 := Lib.hid (K8.out.blk BX.out (by show ¬ (_ ∨ _); have := NE.out; have := GK.out; omega))
              have T8 := Lib.hid (TR.out.keeps K8.out (fun k h1 h2 => by show ¬ (_ ∨ _); have h1 : b1 ≤ k := h1; have h2 : k ≤ g3 := h2; have := NE.out; have := GK.out; omega) OR.out)
              have KK : Hid (Keeps None w w8) := HK.out.trans K8.out (fun _ h => h) (fun k hk h => by have := NE.out; have := LOW.out; have := GK.out; have := K1.out.size; have := SZ.out; rcases h with h | h <;> omega)
              clear k8 h8 hgl ST TR HK CY CH CG BX x1
              go_wp2
              go_roundw
              case rel => exact ⟨i, gl, ⟨cHalfL cy.l cy.w (vbit dd i), cHalfW cy.w⟩, by omega, by go_num, GL.out, H8.out, ⟨NG.out.1, NG.out.2.1, by have := NG.out.2.2; have := NGL.out; show (cHalfL cy.l cy.w (vbit dd i)).length + i ≤ _; omega⟩, NX.out, S8.out, T8.out, B8.out, SZX.out, KK.out⟩
              case measure => simp [intOf]
        · simp only [] at hbe
          subst hbe
          have PV : Ms.pr ⟨p0, p1, 1, bt, lt, dt⟩ = p1 := if_neg (show ¬ (1 : Int) = 0 by decide)
          rw [PV] at BW BL EQ1 EQ2 TG
          clear PV h0
          -- the kind: 1 place of the chance, 1 the bit, p1 the chance
          have CB := Lib.hid (fun w' (h' : CAt w' cb g 144 c.l c.w) => rcbit_any cb g c.l c.w p1 1 w' h' (by have := GD.out.w0; omega) GD.out.w1 (by have := CL.out; omega))
          have s0 := S1.out.cellD 1 _ rfl
          go_wp2_with fail
          refine (CB.out _ C1.out).mono ?_
          rintro e w2 ⟨rfl, gg, hgg, h2, k2⟩
          have C2 := Lib.hid h2
          have K2 := Lib.hid k2
          have GG : Hid (gg = g ∨ wv.heap.size + 1 ≤ gg) := by show _ ∨ _; rcases hgg with h | h; exact .inl h; exact .inr (by have := SZ.out; omega)
          have S2 := Lib.hid (K2.out.blk S1.out (by show ¬ (_ ∨ _); have := NE.out; omega))
          have B2 := Lib.hid (K2.out.blk B1.out (by show ¬ (_ ∨ _); have := NE.out; omega))
          have y0 := S2.out.cellD 1 _ rfl
          have u0 := S2.out.frozen 1
          have ks := (Keeps.self sb w2).put 1 (.int .i64 (adapt p1 1))
          have S4 := Lib.hid (S2.out.set 1 (.int .i64 (adapt p1 1)))
          have B4 := Lib.hid (ks.blk B2.out (by show ¬ _ = _; have := NE.out; omega))
          have C4 := Lib.hid (C2.out.keeps ks (by show ¬ _ = _; have := NE.out; omega) (by show ¬ _ = _; have := NE.out; have := GG.out; omega))
          have K4 := Lib.hid (K2.out.trans ks (T := fun k => k = cb ∨ k = g ∨ k = sb) (fun k h => h.elim .inl (fun h => .inr (.inl h))) (fun k _ h => .inr (.inr h)))
          have T4 := Lib.hid (T1.out.keeps K4.out (fun k h1 h2 => by show ¬ (_ ∨ _ ∨ _); have h1 : b1 ≤ k := h1; have h2 : k ≤ g3 := h2; have := NE.out; omega) OR.out)
          have q0 := B2.out.cellD 0 _ rfl
          have q1 := B2.out.cellD 1 _ rfl
          have q2 := B2.out.cellD 2 _ rfl
          have ne1 : ¬ bx = sb := by have := NE.out; omega
          have ne2 : ¬ sb = bx := by have := NE.out; omega
          clear ks h2 k2 hgg S2 B2 C2 K2 S1 B1 C1 T1 CB s0
          -- a copy, behind the kind: 1 place, p1 chance, 1 beh
          have CT := Lib.hid (fun w' h1 h2 => rctree_in cb gg b2 g2 (cBitS c p1 1) lt 8 nv w' h1 h2 KOK.out.o2 BW.out.1 BW.out.2 (by have := BL.out; omega) (by have := NE.out; omega) (by have := NE.out; omega) (by have := NE.out; have := GG.out; omega) (by have := NE.out; have := GG.out; omega) NV8.out)
          have CT2 := Lib.hid (fun gh w' (hgh : gh = gg ∨ wv.heap.size + 1 ≤ gh) h1 h2 => rctree_in cb gh b3 g3 (tRun nv 8 ⟨cBitS c p1 1, lt, 1⟩).c dt 6 d6 w' h1 h2 KOK.out.o3 TG.out.2.1 TG.out.2.2.1 (by have := BL.out; have := TG.out.2.2.2; omega) (by have := NE.out; omega) (by have := NE.out; omega) (by have := NE.out; have := GG.out; omega) (by have := NE.out; have := GG.out; omega) (by show _ < 64; have := DD.out; have := D6.out; omega))
          go_wp2_with fail
          obtain ⟨w4, hw4⟩ : ∃ x, w2.setCell ⟨sb, 1, none⟩ (.int .i64 (adapt p1 1)) = x := ⟨_, rfl⟩
          rw [hw4] at S4 B4 C4 K4 T4
          rw [hw4]
          clear hw4 y0 u0 q0 q1 q2 ne1 ne2
          refine (CT.out _ C4.out T4.out.t2).mono ?_
          rintro e w5 ⟨rfl, gh, hgh, h5c, h5t, k5⟩
          have K5 := Lib.hid k5
          have H5C := Lib.hid h5c
          have H5T := Lib.hid h5t
          have GH : Hid (gh = gg ∨ wv.heap.size + 1 ≤ gh) := by show _ ∨ _; rcases hgh with h | h; exact .inl h; exact .inr (by have h1 := SZ.out; have h2 := K4.out.size; have h3 : w4.heap.size ≤ gh := h; omega)
          have S5 := Lib.hid (K5.out.blk S4.out (by show ¬ (_ ∨ _ ∨ _); have := NE.out; have := GG.out; omega))
          have B5 := Lib.hid (K5.out.blk B4.out (by show ¬ (_ ∨ _ ∨ _); have := NE.out; have := GG.out; omega))
          have X5 := Lib.hid (T4.out.t1.keeps K5.out (by show ¬ (_ ∨ _ ∨ _); have := NE.out; have := GG.out; dsimp only; omega) (by show ¬ (_ ∨ _ ∨ _); have := NE.out; have := GG.out; dsimp only; omega))
          have Y5 := Lib.hid (T4.out.t3.keeps K5.out (by show ¬ (_ ∨ _ ∨ _); have := NE.out; have := GG.out; dsimp only; omega) (by show ¬ (_ ∨ _ ∨ _); have := NE.out; have := GG.out; dsimp only; omega))
          have d5 := B5.out.cellD 1 _ rfl
          have e5 := B5.out.cellD 0 _ rfl
          clear k5 h5c h5t hgh CT S4 B4 C4 T4
          go_wp2_with fail
          refine (CT2.out gh _ GH.out H5C.out Y5.out).mono ?_
          rintro e w6 ⟨rfl, gi, hgi, h6c, h6t, k6⟩
          have K6 := Lib.hid k6
          have H6C := Lib.hid h6c
          have H6T := Lib.hid h6t
          have GI : Hid (gi = gh ∨ wv.heap.size + 1 ≤ gi) := by show _ ∨ _; rcases hgi with h | h; exact .inl h; exact .inr (by have h1 := SZ.out; have h2 := K4.out.size; have h3 := K5.out.size; have h4 : w5.heap.size ≤ gi := h; omega)
          have S6 := Lib.hid (K6.out.blk S5.out (by show ¬ (_ ∨ _ ∨ _); have := NE.out; have := GG.out; have := GH.out; omega))
          have B6 := Lib.hid (K6.out.blk B5.out (by show ¬ (_ ∨ _ ∨ _); have := NE.out; have := GG.out; have := GH.out; omega))
          have X6 := Lib.hid (X5.out.keeps K6.out (by show ¬ (_ ∨ _ ∨ _); have := NE.out; have := GG.out; have := GH.out; omega) (by show ¬ (_ ∨ _ ∨ _); have := NE.out; have := GG.out; have := GH.out; omega))
          have Y6 := Lib.hid (H5T.out.keeps K6.out (by show ¬ (_ ∨ _ ∨ _); have := NE.out; have := GG.out; have := GH.out; omega) (by show ¬ (_ ∨ _ ∨ _); have := NE.out; have := GG.out; have := GH.out; omega))
          have KF : Hid (Keeps None w w6) := ((K1.out.trans K4.out (T := None) (fun _ h => h) (fun k hk h => by have := NE.out; have := LOW.out; rcases h with h | h | h <;> omega)).trans K5.out (fun _ h => h) (fun k hk h => by have := NE.out; have := LOW.out; have := GG.out; have := K1.out.size; have := SZ.out; rcases h with h | h | h <;> omega)).trans K6.out (fun _ h => h) (fun k hk h => by have := NE.out; have := LOW.out; have := GG.out; have := GH.out; have := K1.out.size; have := SZ.out; rcases h with h | h | h <;> omega)
          have SZ6 : Hid (wv.heap.size + 1 ≤ w6.heap.size) := by show _ ≤ _; have h1 := SZ.out; have h2 := K4.out.size; have h3 := K5.out.size; have h4 := K6.out.size; omega
          have HF := Lib.hid (show hRun dd 6 (tRun d6 6 ⟨(tRun nv 8 ⟨cBitS c p1 1, lt, 1⟩).c, dt, 1⟩).c = (eTok c ⟨p0, p1, 1, bt, lt, dt⟩ ⟨tn, td, tb⟩).1 from EQ1.out.symm)
          obtain ⟨cx, hcx⟩ : ∃ x, (tRun d6 6 ⟨(tRun nv 8 ⟨cBitS c p1 1, lt, 1⟩).c, dt, 1⟩).c = x := ⟨_, rfl⟩
          have CXG : Hid (16777216 ≤ cx.w ∧ cx.w < 4294967296 ∧ cx.l.length ≤ 100000100) := by
            show _ ∧ _
            have a := tRun_good d6 6 (s := (tRun nv 8 ⟨cBitS c p1 1, lt, 1⟩).c) (ps := dt) GD.out.ok.o3 TG.out.2.1 TG.out.2.2.1
            have b1 := TG.out.2.2.2
            have b2 := BL.out
            rw [← hcx]
            exact ⟨a.2.1, a.2.2.1, by have := a.2.2.2; omega⟩
          rw [hcx] at H6C HF
          have BF : Hid ((eTok c ⟨p0, p1, 1, bt, lt, dt⟩ ⟨tn, td, tb⟩).2.beh = 1) := by show _ = _; rw [EQ2.out]; rfl
          clear hcx k6 h6c h6t hgi d5 e5 CT2 S5 B5 X5 Y5 H5C H5T K4 K5 K6
          go_wp2
          go_loopw [12] (fun iv wr => ∃ (jj gk : Nat) (cy : CSt), jj ≤ 6 ∧ iv = .int .i64 ((jj : Int) - 1) ∧ (gk = g ∨ wv.heap.size + 1 ≤ gk) ∧ CAt wr cb gk 144 cy.l cy.w ∧ (16777216 ≤ cy.w ∧ cy.w < 4294967296 ∧ cy.l.length + jj ≤ 100000106) ∧ hRun dd jj cy = (eTok c ⟨p0, p1, 1, bt, lt, dt⟩ ⟨tn, td, tb⟩).1 ∧ Blk wr sb [.int .i64 (eTok c ⟨p0, p1, 1, bt, lt, dt⟩ ⟨tn, td, tb⟩).2.p0, .int .i64 (eTok c ⟨p0, p1, 1, bt, lt, dt⟩ ⟨tn, td, tb⟩).2.p1] 41 ∧ RTrees wr ⟨sb, b1, g1, b2, g2, b3, g3⟩ (eTok c ⟨p0, p1, 1, bt, lt, dt⟩ ⟨tn, td, tb⟩).2 ∧ Blk wr bx [.int .i64 tn, .int .i64 td, .int .u8 tb] 43 ∧ wv.heap.size + 1 ≤ wr.heap.size ∧ Keeps None w wr) (fun iv _ => (intOf iv + 1).toNat)
          case atStart => exact ⟨6, gi, cx, Nat.le_refl _, rfl, by have := GG.out; have := GH.out; have := GI.out; omega, H6C.out, ⟨CXG.out.1, CXG.out.2.1, by have := CXG.out.2.2; omega⟩, HF.out, by rw [EQ2.out]; exact S6.out, by rw [EQ2.out]; exact ⟨X6.out, Y6.out, H6T.out⟩, B6.out, SZ6.out, KF.out⟩
          case round =>
            obtain ⟨jj, gk, cy, hjj, hi, hgk, hc, hg, hr, hst, htr, hbx2, hsz, hk⟩ := hrel
            have SZW := Lib.hid hsz
            have CY := Lib.hid hc
            have CG := Lib.hid hg
            have HR := Lib.hid hr
            have ST := Lib.hid hst
            have TR := Lib.hid htr
            have HK := Lib.hid hk
            have GK := Lib.hid hgk
            have BX := Lib.hid hbx2
            obtain ⟨wi, rfl⟩ : ∃ x, x = wr := ⟨_, rfl⟩
            clear hc hg hr hst htr hk hgk hsz hbx2 SZ6 S6 X6 Y6 H6T H6C KF CXG HF B6
            cases jj with
            | zero =>
              have e0 : ((0 : Nat) : Int) - 1 = -1 := rfl
              rw [e0] at hi
              subst hi
              have e1 : cy = (eTok c ⟨p0, p1, 1, bt, lt, dt⟩ ⟨tn, td, tb⟩).1 := HR.out
              have CF : Hid (CAt wi cb gk 144 (eTok c ⟨p0, p1, 1, bt, lt, dt⟩ ⟨tn, td, tb⟩).1.l (eTok c ⟨p0, p1, 1, bt, lt, dt⟩ ⟨tn, td, tb⟩).1.w) := e1 ▸ CY.out
              have GF : Hid (w.heap.size ≤ gk) := by show _ ≤ _; have := LOW.out; have := GK.out; have := K1.out.size; have := SZ.out; omega
              have HF9 : Hid (CRAt wi cb gk ⟨sb, b1, g1, b2, g2, b3, g3⟩ (eTok c ⟨p0, p1, 1, bt, lt, dt⟩ ⟨tn, td, tb⟩).1 (eTok c ⟨p0, p1, 1, bt, lt, dt⟩ ⟨tn, td, tb⟩).2) := ⟨CF.out, ST.out, TR.out, GT.out, OR.out, by have := NE.out; show cb < b1; omega, by have := NE.out; have := GK.out; show gk < b1 ∨ sb < gk; omega⟩
              clear e0 e1
              have R5 := Lib.hid R3.out
              go_wp2
              go_roundw
              case rel => exact ⟨j + 1, gk, eTok c ⟨p0, p1, 1, bt, lt, dt⟩ ⟨tn, td, tb⟩, _, hlt, by go_num, by rw [BF.out], HF9.out, EF2.out, R5.out, L5.out, GF.out, HK.out⟩
              case measure => simp [intOf]; omega
            | succ i =>
              have e0 : ((i + 1 : Nat) : Int) - 1 = i := by omega
              rw [e0] at hi
              subst hi
              have ev := bit_of2 dd i (by have := DD.out; omega)
              obtain ⟨v0, v1⟩ := vbit_bd dd i
              have CH := Lib.hid (fun w' h1 => rchalf_any cb gk cy.l cy.w (vbit dd i) w' h1 (by have := CG.out; omega) CG.out.2.1 (by have := CG.out; omega))
              have NX : Hid (hRun dd i ⟨cHalfL cy.l cy.w (vbit dd i), cHalfW cy.w⟩ = (eTok c ⟨p0, p1, 1, bt, lt, dt⟩ ⟨tn, td, tb⟩).1) := HR.out
              have NG := Lib.hid (half_good (c := cy) (vbit dd i) CG.out.1 CG.out.2.1)
              have dd9 := DD.out
              have i5 : i ≤ 5 := by omega
              have x1 := BX.out.cellD 1 _ rfl
              clear e0 HR
              go_wp2_with fail
              refine (CH.out _ CY.out).mono ?_
              rintro e w8 ⟨rfl, gl, hgl, h8, k8⟩
              have K8 := Lib.hid k8
              have H8 := Lib.hid h8
              have GL : Hid (gl = g ∨ wv.heap.size + 1 ≤ gl) := by show _ ∨ _; have := GK.out; rcases hgl with h | h; rw [h]; exact this; exact .inr (by have h2 := SZW.out; omega)
              have SZX : Hid (wv.heap.size + 1 ≤ w8.heap.size) := Nat.le_trans SZW.out K8.out.size
              have NGL := Lib.hid CG.out.2.2
              have S8 := Lib.hid (K8.out.blk ST.out (by show ¬ (_ ∨ _); have := NE.out; have := GK.out; omega))
              have B8 := Lib.hid (K8.out.blk BX.out (by show ¬ (_ ∨ _); have := NE.out; have := GK.out; omega))
              have T8 := Lib.hid (TR.out.keeps K8.out (fun k h1 h2 => by show ¬ (_ ∨ _); have h1 : b1 ≤ k := h1; have h2 : k ≤ g3 := h2; have := NE.out; have := GK.out; omega) OR.out)
              have KK : Hid (Keeps None w w8) := HK.out.trans K8.out (fun _ h => h) (fun k hk h => by have := NE.out; have := LOW.out; have := GK.out; have := K1.out.size; have := SZ.out; rcases h with h | h <;> omega)
              clear k8 h8 hgl ST TR HK CY CH CG BX x1
              go_wp2
              go_roundw
              case rel => exact ⟨i, gl, ⟨cHalfL cy.l cy.w (vbit dd i), cHalfW cy.w⟩, by omega, by go_num, GL.out, H8.out, ⟨NG.out.1, NG.out.2.1, by have := NG.out.2.2; have := NGL.out; show (cHalfL cy.l cy.w (vbit dd i)).length + i ≤ _; omega⟩, NX.out, S8.out, T8.out, B8.out, SZX.out, KK.out⟩
              case measure => simp [intOf]
    · obtain rfl : j = m := by omega
      have RF : Hid ((c, mm) = fin) := by show _ = _; rw [← EF.out, List.drop_of_length_le (by rw [HL.out]; exact Nat.le_refl _)]; rfl
      obtain ⟨capc, hb, ho, hne⟩ := HC.out.cod
      have x0 := hb.cellD 0 _ rfl
      have OF : Hid (Own wv w.heap.size (.slice (some ⟨g, 0, none⟩) c.l.length capc) c.l) := ho.raise GLO.out
      clear hb ho
      go_wp2
      go_ret
      exact ⟨_, rfl, by have := OF.out; rw [← RF.out]; exact this, HK.out⟩
end Go.Proofs.Ytggjdkkobhefeaa
