/- The walk of (*token.state).token. -/
import Derived.Test.YtggjdkkobhefeaaTkModel
import Derived.Test.YtggjdkkobhefeaaMix2
namespace Go.Proofs.Ytggjdkkobhefeaa
open Go.RowKit

theorem bit_of2 (v i : Nat) (hv : v < 65536) : bits .and .i64 ((v : Int) / 2 ^ i) 1 = vbit v i := by
  have e : (v : Int) / 2 ^ i = ((v / 2 ^ i : Nat) : Int) := by simp
  have hle : v / 2 ^ i ≤ v := Nat.div_le_self _ _
  rw [e]
  unfold vbit
  exact i64_and_one _ (by omega)
theorem tRun_good (v n : Nat) {s : CSt} {ps : List Int} (ok : TOk ps n) (h0 : 16777216 ≤ s.w) (h1 : s.w < 4294967296) :
    TOk (tRun v n ⟨s, ps, 1⟩).ps n ∧ 16777216 ≤ (tRun v n ⟨s, ps, 1⟩).c.w ∧ (tRun v n ⟨s, ps, 1⟩).c.w < 4294967296 ∧ (tRun v n ⟨s, ps, 1⟩).c.l.length ≤ s.l.length + n := by
  have h := (TLoop.start v ok h0 h1).fin
  exact ⟨h.ok, h.w0, h.w1, by have := h.len; omega⟩
theorem half_good {c : CSt} (bit : Int) (h0 : 16777216 ≤ c.w) (h1 : c.w < 4294967296) : 16777216 ≤ cHalfW c.w ∧ cHalfW c.w < 4294967296 ∧ (cHalfL c.l c.w bit).length ≤ c.l.length + 1 := by
  have a := cStep_w c 0 bit h0 h1
  have l := (cStep_len c 0 bit).2
  unfold cStep at a l
  rw [if_pos rfl] at a l
  exact ⟨a.1, a.2, l⟩
theorem hRun_good (v : Nat) : ∀ (j : Nat) (c : CSt), 16777216 ≤ c.w → c.w < 4294967296 → 16777216 ≤ (hRun v j c).w ∧ (hRun v j c).w < 4294967296 ∧ (hRun v j c).l.length ≤ c.l.length + j
  | 0, c, h0, h1 => ⟨h0, h1, Nat.le_refl _⟩
  | j + 1, c, h0, h1 => by
    obtain ⟨a, b, l⟩ := half_good (c := c) (vbit v j) h0 h1
    obtain ⟨a2, b2, l2⟩ := hRun_good v j ⟨cHalfL c.l c.w (vbit v j), cHalfW c.w⟩ a b
    exact ⟨a2, b2, by show (hRun v j _).l.length ≤ _; have : (cHalfL c.l c.w (vbit v j)).length ≤ c.l.length + 1 := l; have l2 : (hRun v j ⟨cHalfL c.l c.w (vbit v j), cHalfW c.w⟩).l.length ≤ (cHalfL c.l c.w (vbit v j)).length + j := l2; omega⟩
/-- A token that the packing takes. -/
def Fits (t : Tok) : Prop := (t.n = 0 ∧ 0 ≤ t.b ∧ t.b ≤ 255) ∨ (2 ≤ t.n ∧ t.n ≤ 257 ∧ 1 ≤ t.d ∧ t.d ≤ 4096)
theorem MOk.kind {m : Ms} (h : MOk m) {is : Int} (hi : is = 0 ∨ is = 1) : MOk (m.kind is) := by
  unfold Ms.kind
  split
  · exact ⟨h.o1, h.o2, h.o3, hi⟩
  · exact ⟨h.o1, h.o2, h.o3, hi⟩
/-- What is good of a coder and a model. -/
structure CGood (c : CSt) (m : Ms) : Prop where
  w0 : 16777216 ≤ c.w
  w1 : c.w < 4294967296
  ok : MOk m
theorem CGood.start : CGood cst0 ms0 := ⟨by decide, by decide, MOk.start⟩
theorem CGood.tok {c : CSt} {m : Ms} (h : CGood c m) (t : Tok) : CGood (eTok c m t).1 (eTok c m t).2 ∧ (eTok c m t).1.l.length ≤ c.l.length + 21 := by
  unfold eTok
  split
  · have k := h.ok.kind (is := 0) (.inl rfl)
    have b := cBitS_w c m.pr 0 h.w0 h.w1
    have l := cBitS_len c m.pr 0
    obtain ⟨a1, a2, a3, a4⟩ := tRun_good t.b.toNat 8 k.o1 b.1 b.2
    exact ⟨⟨a2, a3, ⟨a1, k.o2, k.o3, k.be⟩⟩, by show (tRun _ _ _).c.l.length ≤ _; omega⟩
  · have k := h.ok.kind (is := 1) (.inr rfl)
    have b := cBitS_w c m.pr 1 h.w0 h.w1
    have l := cBitS_len c m.pr 1
    obtain ⟨a1, a2, a3, a4⟩ := tRun_good (t.n - 2).toNat 8 k.o2 b.1 b.2
    obtain ⟨d1, d2, d3, d4⟩ := tRun_good ((t.d - 1).toNat / 64) 6 k.o3 a2 a3
    obtain ⟨e1, e2, e3⟩ := hRun_good (t.d - 1).toNat 6 _ d2 d3
    exact ⟨⟨e1, e2, ⟨k.o1, a1, d1, k.be⟩⟩, by show (hRun _ _ _).l.length ≤ _; omega⟩

/-- A coder and what is learned, in memory. -/
structure CMAt (w : World) (b g : Nat) (T : TL) (c : CSt) (m : Ms) : Prop where
  cod : CAt w b g 146 c.l c.w
  st : Blk w T.sb (mcells T m) 105
  tr : Trees w T m
  good : CGood c m
  ord : T.Ord
  lo : b < T.g1
  ap : g < T.g1 ∨ T.sb < g
def CMS (b g : Nat) (T : TL) (k : Nat) : Prop := k = b ∨ k = g ∨ (T.g1 ≤ k ∧ k ≤ T.sb)
theorem CMAt.keeps {w w' : World} {b g : Nat} {T : TL} {c : CSt} {m : Ms} {S : Nat → Prop} (h : CMAt w b g T c m) (hk : Keeps S w w') (hS : ∀ k, CMS b g T k → ¬ S k) : CMAt w' b g T c m := by
  obtain ⟨o1, o2, o3, o4, o5, o6⟩ := h.ord
  exact ⟨h.cod.keeps hk (hS _ (.inl rfl)) (hS _ (.inr (.inl rfl))), hk.blk h.st (hS _ (.inr (.inr ⟨by omega, Nat.le_refl _⟩))), h.tr.keeps hk (fun k h1 h2 => hS k (.inr (.inr ⟨h1, by omega⟩))) h.ord, h.good, h.ord, h.lo, h.ap⟩
theorem CMAt.later {w w' : World} {b g : Nat} {T : TL} {c : CSt} {m : Ms} (h : CMAt w b g T c m) (hk : Keeps None w w') : CMAt w' b g T c m := h.keeps hk (fun _ _ h => h)
def TokDone (w : World) (b g : Nat) (T : TL) (c : CSt) (m : Ms) (e : Ending) (w' : World) : Prop :=
  e = .returned (.tuple #[]) ∧ ∃ g', (g' = g ∨ w.heap.size ≤ g') ∧ CMAt w' b g' T c m ∧ Keeps (CMS b g T) w w'
set_option maxRecDepth 100000 in
set_option maxHeartbeats 3200000 in
theorem tktoken_any (b g : Nat) (T : TL) (c : CSt) (m : Ms) (t : Tok) (w : World) (h : CMAt w b g T c m) (hf : Fits t) (hl : c.l.length ≤ 100000000) :
    Calls Try.prog 71 #[.pointer (some ⟨T.sb, 0, none⟩), .pointer (some ⟨b, 0, none⟩), tagg t] w (TokDone w b g T (eTok c m t).1 (eTok c m t).2) := by
  have GT := Lib.hid (h.good.tok t).1
  have GD := Lib.hid h.good
  have CL := Lib.hid hl
  have OR := Lib.hid h.ord
  obtain ⟨o1, o2, o3, o4, o5, o6⟩ := h.ord
  have hsb := h.st.lt
  have hgl := h.cod.ltg
  have hbl := h.cod.ltb
  have hlo := h.lo
  have hap := h.ap
  obtain ⟨sb, b1, g1, b2, g2, b3, g3⟩ := T
  obtain ⟨p0, p1, be, bt, lt, dt⟩ := m
  obtain ⟨tn, td, tb⟩ := t
  simp only [] at o1 o2 o3 o4 o5 o6 hsb hlo hap
  unfold tagg
  simp only []
  obtain ⟨bx, hbx⟩ : ∃ x, w.heap.size = x := ⟨_, rfl⟩
  have NE : Hid (b < g1 ∧ (g < g1 ∨ sb < g) ∧ g1 < b1 ∧ b1 < g2 ∧ g2 < b2 ∧ b2 < g3 ∧ g3 < b3 ∧ b3 < sb ∧ sb < bx ∧ g < bx ∧ b < bx ∧ w.heap.size = bx) := ⟨hlo, hap, o1, o2, o3, o4, o5, o6, by omega, by omega, by omega, hbx⟩
  have k1 : Keeps None w (w.alloc (.cells #[.int .i64 tn, .int .i64 td, .int .u8 tb] 43)) := (Keeps.refl None w).alloc _
  have bb := Blk.new w [.int .i64 tn, .int .i64 td, .int .u8 tb] 43
  have H1 := Lib.hid (h.later k1)
  have SZ : Hid ((w.alloc (.cells #[.int .i64 tn, .int .i64 td, .int .u8 tb] 43)).heap.size = w.heap.size + 1) := by show _ = _; simp
  rw [hbx] at bb
  have K1 := Lib.hid k1
  have B1 := Lib.hid bb
  have HBX := Lib.hid hbx
  clear h k1 bb o1 o2 o3 o4 o5 o6 hsb hgl hbl hlo hap
  rcases hf with ⟨h0, hb0, hb1⟩ | hcp
  · subst h0
    simp only [] at hb0 hb1
    obtain ⟨tb, rfl⟩ : ∃ x : Nat, tb = x := ⟨tb.toNat, by omega⟩
    have TB8 : Hid (tb < 2 ^ 8) := by show _ < _; omega
    have tb9 : tb ≤ 255 := by omega
    have KOK := Lib.hid (GD.out.ok.kind (is := 0) (.inl rfl))
    have BW := Lib.hid (cBitS_w c (Ms.pr ⟨p0, p1, be, bt, lt, dt⟩) 0 GD.out.w0 GD.out.w1)
    have BL : Hid ((cBitS c (Ms.pr ⟨p0, p1, be, bt, lt, dt⟩) 0).l.length ≤ 100000001) := by show _ ≤ _; have := cBitS_len c (Ms.pr ⟨p0, p1, be, bt, lt, dt⟩) 0; omega
    have EQ1 : Hid ((eTok c ⟨p0, p1, be, bt, lt, dt⟩ ⟨0, td, tb⟩).1 = (tRun tb 8 ⟨cBitS c (Ms.pr ⟨p0, p1, be, bt, lt, dt⟩) 0, bt, 1⟩).c) := by
      show _ = _; unfold eTok; rw [if_pos rfl]; simp only [Int.toNat_natCast]; unfold Ms.kind; split <;> rfl
    have EQ2 : Hid ((eTok c ⟨p0, p1, be, bt, lt, dt⟩ ⟨0, td, tb⟩).2 = { Ms.kind ⟨p0, p1, be, bt, lt, dt⟩ 0 with bt := (tRun tb 8 ⟨cBitS c (Ms.pr ⟨p0, p1, be, bt, lt, dt⟩) 0, bt, 1⟩).ps }) := by
      show _ = _; unfold eTok; rw [if_pos rfl]; simp only [Int.toNat_natCast]; unfold Ms.kind; split <;> rfl
    have hmin : (if (1 : Int) < 0 then (1 : Int) else 0) = 0 := rfl
    rcases GD.out.ok.be with hbe | hbe
    · simp only [] at hbe
      subst hbe
      have PV : Ms.pr ⟨p0, p1, 0, bt, lt, dt⟩ = p0 := if_pos rfl
      rw [PV] at BW BL EQ1 EQ2
      clear PV hb0 hb1 hl
      -- from the entry to the kind's region; 0 the token's fields as the box holds them (already in w.alloc ..)
      go_enter Try.func71, Try.ntmps71
      go_wp2
      obtain ⟨w1, hw1⟩ : ∃ x, w.alloc (.cells #[.int .i64 0, .int .i64 td, .int .u8 tb] 43) = x := ⟨_, rfl⟩
      rw [hw1] at K1 B1 H1 SZ
      rw [hw1]
      clear hw1
      have C1 := Lib.hid H1.out.cod
      have S1 : Hid (Blk w1 sb [.int .i64 p0, .int .i64 p1, .int .i64 0, .pointer (some ⟨b1, 0, none⟩), .pointer (some ⟨b2, 0, none⟩), .pointer (some ⟨b3, 0, none⟩)] 105) := H1.out.st
      have T1 := Lib.hid H1.out.tr
      clear H1
      -- the kind: 0 place of the chance, 0 the bit
      have CB := Lib.hid (fun w' (h' : CAt w' b g 146 c.l c.w) => cbit_any b g c.l c.w p0 0 w' h' (by have := GD.out.w0; omega) GD.out.w1 (by have := CL.out; omega))
      go_wp2
      obtain ⟨mS, mh⟩ : ∃ S : World → Prop, ∀ w', S w' ↔ (w'.cell? ⟨sb, 2, none⟩ = some (.int .i64 0) ∧ w'.cell? ⟨sb, 0, none⟩ = some (.int .i64 p0)) := ⟨_, fun _ => Iff.rfl⟩
      have mk0 : ∀ x : Memb mS, x.at_.cell? ⟨sb, 2, none⟩ = some (.int .i64 0) := fun x => ((mh _).1 x.is).1
      have mk1 : ∀ x : Memb mS, x.at_.cell? ⟨sb, 0, none⟩ = some (.int .i64 p0) := fun x => ((mh _).1 x.is).2
      have mn : Nonempty (Memb mS) := ⟨⟨(w1).drew, (mh _).2 ⟨S1.out.cellD 2 _ rfl, S1.out.cellD 0 _ rfl⟩⟩⟩
      have mH := Lib.hid mh
      clear mh
      refine wp_region_mix [16, 20] (InS mS) (by kernel_rfl) (by kernel_rfl) (InS.mk ((mH.out _).2 ⟨S1.out.cellD 2 _ rfl, S1.out.cellD 0 _ rfl⟩)) ?_
      refine wpMix_seg 16 (by kernel_rfl) (by decide) ?_
      simp only [List.take_succ_cons, List.take_zero, List.drop_succ_cons, List.drop_zero]
      repeat (go_big_quiet_step (fail))
      refine wpQuiet_nil ?_
      refine wpMix_eff (by kernel_rfl) ?_
      go_wp2_with fail
      refine (CB.out _ C1.out.drew).mono ?_
      rintro e w2 ⟨rfl, gg, hgg, h2, k2⟩
      have C2 := Lib.hid h2
      have K2 := Lib.hid ((Keeps.refl (fun k => k = b ∨ k = g) w1).drew.trans k2 (T := fun k => k = b ∨ k = g) (fun _ h => h) (fun _ _ h => h))
      have GG : Hid (gg = g ∨ w.heap.size + 1 ≤ gg) := by show _ ∨ _; rcases hgg with h | h; exact .inl h; exact .inr (by have := SZ.out; have h : w1.heap.size ≤ gg := h; omega)
      have S2 := Lib.hid (K2.out.blk S1.out (by show ¬ (_ ∨ _); have := NE.out; omega))
      have B2 := Lib.hid (K2.out.blk B1.out (by show ¬ (_ ∨ _); have := NE.out; omega))
      have y2 := S2.out.cellD 2 _ rfl
      have y0 := S2.out.cellD 0 _ rfl
      have u2 := S2.out.frozen 2
      have u0 := S2.out.frozen 0
      clear h2 k2 hgg
      go_wp2
      refine MixK.on (InS.mk ((mH.out _).2 (⟨S2.out.cellD 2 _ rfl, S2.out.cellD 0 _ rfl⟩))) ?_
      refine wpMix_seg 3 (by kernel_rfl) (by decide) ?_
      simp only [List.take_succ_cons, List.take_zero, List.drop_succ_cons, List.drop_zero]
      repeat (go_big_quiet_step (fail))
      refine wpQuiet_nil ?_
      refine wpMix_eff (by kernel_rfl) ?_
      go_wp2
      refine MixK.last (by kernel_rfl) ?_
      refine wpMix_nil ?_
      clear mk0 mk1 mn mH
      have ks := ((Keeps.self sb w2).put 0 (.int .i64 (adapt p0 0))).put 2 (.int .i64 0)
      have S4 := Lib.hid ((S2.out.set 0 (.int .i64 (adapt p0 0))).set 2 (.int .i64 0))
      have B4 := Lib.hid (ks.blk B2.out (by show ¬ _ = _; have := NE.out; omega))
      have C4 := Lib.hid (C2.out.keeps ks (by show ¬ _ = _; have := NE.out; omega) (by show ¬ _ = _; have := NE.out; have := GG.out; omega))
      have K4 := Lib.hid (K2.out.trans ks (T := fun k => k = b ∨ k = g ∨ k = sb) (fun k h => h.elim .inl (fun h => .inr (.inl h))) (fun k _ h => .inr (.inr h)))
      have T4 := Lib.hid (T1.out.keeps K4.out (fun k h1 h2 => by show ¬ (_ ∨ _ ∨ _); have h1 : g1 ≤ k := h1; have h2 : k ≤ b3 := h2; have := NE.out; omega) OR.out)
      have q1 := B2.out.cellD 1 _ rfl
      have ne1 : ¬ bx = sb := by have := NE.out; omega
      have ne2 : ¬ sb = bx := by have := NE.out; omega
      clear ks S2 B2 C2 K2 S1 B1 C1 T1 CB
      -- a literal, behind the kind
      have CT := Lib.hid (fun w' h1 h2 => ctree_in b gg b1 g1 (cBitS c p0 0) bt 8 tb w' h1 h2 KOK.out.o1 BW.out.1 BW.out.2 (by have := BL.out; omega) (by have := NE.out; omega) (by have := NE.out; omega) (by have := NE.out; have := GG.out; omega) (by have := NE.out; have := GG.out; omega) TB8.out)
      go_wp2
      obtain ⟨w4, hw4⟩ : ∃ x, (w2.setCell ⟨sb, 0, none⟩ (.int .i64 (adapt p0 0))).setCell ⟨sb, 2, none⟩ (.int .i64 0) = x := ⟨_, rfl⟩
      rw [hw4] at S4 B4 C4 K4 T4
      rw [hw4]
      clear hw4 y2 y0 u2 u0 q1 ne1 ne2
      obtain ⟨m2S, m2h⟩ : ∃ S : World → Prop, ∀ w', S w' ↔ (w'.cell? ⟨sb, 3, none⟩ = some (.pointer (some ⟨b1, 0, none⟩)) ∧ w'.cell? ⟨bx, 2, none⟩ = some (.int .u8 tb)) := ⟨_, fun _ => Iff.rfl⟩
      have m2k0 : ∀ x : Memb m2S, x.at_.cell? ⟨sb, 3, none⟩ = some (.pointer (some ⟨b1, 0, none⟩)) := fun x => ((m2h _).1 x.is).1
      have m2k1 : ∀ x : Memb m2S, x.at_.cell? ⟨bx, 2, none⟩ = some (.int .u8 tb) := fun x => ((m2h _).1 x.is).2
      have m2n : Nonempty (Memb m2S) := ⟨⟨(w4).drew, (m2h _).2 ⟨S4.out.cellD 3 _ rfl, B4.out.cellD 2 _ rfl⟩⟩⟩
      have m2H := Lib.hid m2h
      clear m2h
      refine wp_region_mix [8] (InS m2S) (by kernel_rfl) (by kernel_rfl) (InS.mk ((m2H.out _).2 ⟨S4.out.cellD 3 _ rfl, B4.out.cellD 2 _ rfl⟩)) ?_
      refine wpMix_seg 8 (by kernel_rfl) (by decide) ?_
      simp only [List.take_succ_cons, List.take_zero, List.drop_succ_cons, List.drop_zero]
      repeat (go_big_quiet_step (fail))
      refine wpQuiet_nil ?_
      refine wpMix_eff (by kernel_rfl) ?_
      go_wp2_with fail
      refine (CT.out _ C4.out.drew T4.out.t1.drew).mono ?_
      rintro e w5 ⟨rfl, gh, hgh, h5c, h5t, k5⟩
      have K5 := Lib.hid ((Keeps.refl (fun k => k = b ∨ k = gg ∨ k = g1) w4).drew.trans k5 (T := fun k => k = b ∨ k = gg ∨ k = g1) (fun _ h => h) (fun _ _ h => h))
      have H5C := Lib.hid h5c
      have H5T := Lib.hid h5t
      have GH : Hid (gh = gg ∨ w.heap.size + 1 ≤ gh) := by show _ ∨ _; rcases hgh with h | h; exact .inl h; exact .inr (by have h1 := SZ.out; have h2 := K4.out.size; have h3 : w4.heap.size ≤ gh := h; omega)
      clear k5 h5c h5t hgh
      go_wp2
      refine MixK.last (by kernel_rfl) ?_
      refine wpMix_nil ?_
      clear m2k0 m2k1 m2n m2H
      go_wp2
      go_end0
      exact ⟨rfl, gh, by have := GG.out; have := GH.out; omega, ⟨EQ1.out ▸ H5C.out, by rw [EQ2.out]; exact K5.out.blk S4.out (by show ¬ (_ ∨ _ ∨ _); have := NE.out; have := GG.out; dsimp only; omega), by rw [EQ2.out]; exact ⟨H5T.out, T4.out.t2.keeps K5.out (by show ¬ (_ ∨ _ ∨ _); have := NE.out; have := GG.out; dsimp only; omega) (by show ¬ (_ ∨ _ ∨ _); have := NE.out; have := GG.out; dsimp only; omega), T4.out.t3.keeps K5.out (by show ¬ (_ ∨ _ ∨ _); have := NE.out; have := GG.out; dsimp only; omega) (by show ¬ (_ ∨ _ ∨ _); have := NE.out; have := GG.out; dsimp only; omega)⟩, GT.out, OR.out, by have := NE.out; show b < g1; omega, by have := NE.out; have := GG.out; have := GH.out; show gh < g1 ∨ sb < gh; omega⟩,
        (K1.out.trans K4.out (T := CMS b g ⟨sb, b1, g1, b2, g2, b3, g3⟩) (fun _ h => h.elim) (fun k _ h => h.elim .inl (fun h => .inr (h.elim .inl (fun h => .inr ⟨by have := NE.out; show g1 ≤ k; omega, by show k ≤ sb; omega⟩))))).trans K5.out (fun _ h => h) (fun k hk h => h.elim .inl (fun h => .inr (h.elim (fun h => by have := GG.out; rcases this with e | e; exact .inl (h.trans e); omega) (fun h => .inr ⟨by show g1 ≤ k; omega, by have := NE.out; show k ≤ sb; omega⟩))))⟩
    · simp only [] at hbe
      subst hbe
      have PV : Ms.pr ⟨p0, p1, 1, bt, lt, dt⟩ = p1 := if_neg (show ¬ (1 : Int) = 0 by decide)
      rw [PV] at BW BL EQ1 EQ2
      clear PV hb0 hb1 hl
      -- from the entry to the kind's region; 0 the token's fields as the box holds them (already in w.alloc ..)
      go_enter Try.func71, Try.ntmps71
      go_wp2
      obtain ⟨w1, hw1⟩ : ∃ x, w.alloc (.cells #[.int .i64 0, .int .i64 td, .int .u8 tb] 43) = x := ⟨_, rfl⟩
      rw [hw1] at K1 B1 H1 SZ
      rw [hw1]
      clear hw1
      have C1 := Lib.hid H1.out.cod
      have S1 : Hid (Blk w1 sb [.int .i64 p0, .int .i64 p1, .int .i64 1, .pointer (some ⟨b1, 0, none⟩), .pointer (some ⟨b2, 0, none⟩), .pointer (some ⟨b3, 0, none⟩)] 105) := H1.out.st
      have T1 := Lib.hid H1.out.tr
      clear H1
      -- the kind: 1 place of the chance, 0 the bit
      have CB := Lib.hid (fun w' (h' : CAt w' b g 146 c.l c.w) => cbit_any b g c.l c.w p1 0 w' h' (by have := GD.out.w0; omega) GD.out.w1 (by have := CL.out; omega))
      go_wp2
      obtain ⟨mS, mh⟩ : ∃ S : World → Prop, ∀ w', S w' ↔ (w'.cell? ⟨sb, 2, none⟩ = some (.int .i64 1) ∧ w'.cell? ⟨sb, 1, none⟩ = some (.int .i64 p1)) := ⟨_, fun _ => Iff.rfl⟩
      have mk0 : ∀ x : Memb mS, x.at_.cell? ⟨sb, 2, none⟩ = some (.int .i64 1) := fun x => ((mh _).1 x.is).1
      have mk1 : ∀ x : Memb mS, x.at_.cell? ⟨sb, 1, none⟩ = some (.int .i64 p1) := fun x => ((mh _).1 x.is).2
      have mn : Nonempty (Memb mS) := ⟨⟨(w1).drew, (mh _).2 ⟨S1.out.cellD 2 _ rfl, S1.out.cellD 1 _ rfl⟩⟩⟩
      have mH := Lib.hid mh
      clear mh
      refine wp_region_mix [16, 20] (InS mS) (by kernel_rfl) (by kernel_rfl) (InS.mk ((mH.out _).2 ⟨S1.out.cellD 2 _ rfl, S1.out.cellD 1 _ rfl⟩)) ?_
      refine wpMix_seg 16 (by kernel_rfl) (by decide) ?_
      simp only [List.take_succ_cons, List.take_zero, List.drop_succ_cons, List.drop_zero]
      repeat (go_big_quiet_step (fail))
      refine wpQuiet_nil ?_
      refine wpMix_eff (by kernel_rfl) ?_
      go_wp2_with fail
      refine (CB.out _ C1.out.drew).mono ?_
      rintro e w2 ⟨rfl, gg, hgg, h2, k2⟩
      have C2 := Lib.hid h2
      have K2 := Lib.hid ((Keeps.refl (fun k => k = b ∨ k = g) w1).drew.trans k2 (T := fun k => k = b ∨ k = g) (fun _ h => h) (fun _ _ h => h))
      have GG : Hid (gg = g ∨ w.heap.size + 1 ≤ gg) := by show _ ∨ _; rcases hgg with h | h; exact .inl h; exact .inr (by have := SZ.out; have h : w1.heap.size ≤ gg := h; omega)
      have S2 := Lib.hid (K2.out.blk S1.out (by show ¬ (_ ∨ _); have := NE.out; omega))
      have B2 := Lib.hid (K2.out.blk B1.out (by show ¬ (_ ∨ _); have := NE.out; omega))
      have y2 := S2.out.cellD 2 _ rfl
      have y0 := S2.out.cellD 1 _ rfl
      have u2 := S2.out.frozen 2
      have u0 := S2.out.frozen 1
      clear h2 k2 hgg
      go_wp2
      refine MixK.on (InS.mk ((mH.out _).2 (⟨S2.out.cellD 2 _ rfl, S2.out.cellD 1 _ rfl⟩))) ?_
      refine wpMix_seg 3 (by kernel_rfl) (by decide) ?_
      simp only [List.take_succ_cons, List.take_zero, List.drop_succ_cons, List.drop_zero]
      repeat (go_big_quiet_step (fail))
      refine wpQuiet_nil ?_
      refine wpMix_eff (by kernel_rfl) ?_
      go_wp2
      refine MixK.last (by kernel_rfl) ?_
      refine wpMix_nil ?_
      clear mk0 mk1 mn mH
      have ks := ((Keeps.self sb w2).put 1 (.int .i64 (adapt p1 0))).put 2 (.int .i64 0)
      have S4 := Lib.hid ((S2.out.set 1 (.int .i64 (adapt p1 0))).set 2 (.int .i64 0))
      have B4 := Lib.hid (ks.blk B2.out (by show ¬ _ = _; have := NE.out; omega))
      have C4 := Lib.hid (C2.out.keeps ks (by show ¬ _ = _; have := NE.out; omega) (by show ¬ _ = _; have := NE.out; have := GG.out; omega))
      have K4 := Lib.hid (K2.out.trans ks (T := fun k => k = b ∨ k = g ∨ k = sb) (fun k h => h.elim .inl (fun h => .inr (.inl h))) (fun k _ h => .inr (.inr h)))
      have T4 := Lib.hid (T1.out.keeps K4.out (fun k h1 h2 => by show ¬ (_ ∨ _ ∨ _); have h1 : g1 ≤ k := h1; have h2 : k ≤ b3 := h2; have := NE.out; omega) OR.out)
      have q1 := B2.out.cellD 1 _ rfl
      have ne1 : ¬ bx = sb := by have := NE.out; omega
      have ne2 : ¬ sb = bx := by have := NE.out; omega
      clear ks S2 B2 C2 K2 S1 B1 C1 T1 CB
      -- a literal, behind the kind
      have CT := Lib.hid (fun w' h1 h2 => ctree_in b gg b1 g1 (cBitS c p1 0) bt 8 tb w' h1 h2 KOK.out.o1 BW.out.1 BW.out.2 (by have := BL.out; omega) (by have := NE.out; omega) (by have := NE.out; omega) (by have := NE.out; have := GG.out; omega) (by have := NE.out; have := GG.out; omega) TB8.out)
      go_wp2
      obtain ⟨w4, hw4⟩ : ∃ x, (w2.setCell ⟨sb, 1, none⟩ (.int .i64 (adapt p1 0))).setCell ⟨sb, 2, none⟩ (.int .i64 0) = x := ⟨_, rfl⟩
      rw [hw4] at S4 B4 C4 K4 T4
      rw [hw4]
      clear hw4 y2 y0 u2 u0 q1 ne1 ne2
      obtain ⟨m2S, m2h⟩ : ∃ S : World → Prop, ∀ w', S w' ↔ (w'.cell? ⟨sb, 3, none⟩ = some (.pointer (some ⟨b1, 0, none⟩)) ∧ w'.cell? ⟨bx, 2, none⟩ = some (.int .u8 tb)) := ⟨_, fun _ => Iff.rfl⟩
      have m2k0 : ∀ x : Memb m2S, x.at_.cell? ⟨sb, 3, none⟩ = some (.pointer (some ⟨b1, 0, none⟩)) := fun x => ((m2h _).1 x.is).1
      have m2k1 : ∀ x : Memb m2S, x.at_.cell? ⟨bx, 2, none⟩ = some (.int .u8 tb) := fun x => ((m2h _).1 x.is).2
      have m2n : Nonempty (Memb m2S) := ⟨⟨(w4).drew, (m2h _).2 ⟨S4.out.cellD 3 _ rfl, B4.out.cellD 2 _ rfl⟩⟩⟩
      have m2H := Lib.hid m2h
      clear m2h
      refine wp_region_mix [8] (InS m2S) (by kernel_rfl) (by kernel_rfl) (InS.mk ((m2H.out _).2 ⟨S4.out.cellD 3 _ rfl, B4.out.cellD 2 _ rfl⟩)) ?_
      refine wpMix_seg 8 (by kernel_rfl) (by decide) ?_
      simp only [List.take_succ_cons, List.take_zero, List.drop_succ_cons, List.drop_zero]
      repeat (go_big_quiet_step (fail))
      refine wpQuiet_nil ?_
      refine wpMix_eff (by kernel_rfl) ?_
      go_wp2_with fail
      refine (CT.out _ C4.out.drew T4.out.t1.drew).mono ?_
      rintro e w5 ⟨rfl, gh, hgh, h5c, h5t, k5⟩
      have K5 := Lib.hid ((Keeps.refl (fun k => k = b ∨ k = gg ∨ k = g1) w4).drew.trans k5 (T := fun k => k = b ∨ k = gg ∨ k = g1) (fun _ h => h) (fun _ _ h => h))
      have H5C := Lib.hid h5c
      have H5T := Lib.hid h5t
      have GH : Hid (gh = gg ∨ w.heap.size + 1 ≤ gh) := by show _ ∨ _; rcases hgh with h | h; exact .inl h; exact .inr (by have h1 := SZ.out; have h2 := K4.out.size; have h3 : w4.heap.size ≤ gh := h; omega)
      clear k5 h5c h5t hgh
      go_wp2
      refine MixK.last (by kernel_rfl) ?_
      refine wpMix_nil ?_
      clear m2k0 m2k1 m2n m2H
      go_wp2
      go_end0
      exact ⟨rfl, gh, by have := GG.out; have := GH.out; omega, ⟨EQ1.out ▸ H5C.out, by rw [EQ2.out]; exact K5.out.blk S4.out (by show ¬ (_ ∨ _ ∨ _); have := NE.out; have := GG.out; dsimp only; omega), by rw [EQ2.out]; exact ⟨H5T.out, T4.out.t2.keeps K5.out (by show ¬ (_ ∨ _ ∨ _); have := NE.out; have := GG.out; dsimp only; omega) (by show ¬ (_ ∨ _ ∨ _); have := NE.out; have := GG.out; dsimp only; omega), T4.out.t3.keeps K5.out (by show ¬ (_ ∨ _ ∨ _); have := NE.out; have := GG.out; dsimp only; omega) (by show ¬ (_ ∨ _ ∨ _); have := NE.out; have := GG.out; dsimp only; omega)⟩, GT.out, OR.out, by have := NE.out; show b < g1; omega, by have := NE.out; have := GG.out; have := GH.out; show gh < g1 ∨ sb < gh; omega⟩,
        (K1.out.trans K4.out (T := CMS b g ⟨sb, b1, g1, b2, g2, b3, g3⟩) (fun _ h => h.elim) (fun k _ h => h.elim .inl (fun h => .inr (h.elim .inl (fun h => .inr ⟨by have := NE.out; show g1 ≤ k; omega, by show k ≤ sb; omega⟩))))).trans K5.out (fun _ h => h) (fun k hk h => h.elim .inl (fun h => .inr (h.elim (fun h => by have := GG.out; rcases this with e | e; exact .inl (h.trans e); omega) (fun h => .inr ⟨by show g1 ≤ k; omega, by have := NE.out; show k ≤ sb; omega⟩))))⟩
  · simp only [] at hcp
    obtain ⟨n0, n1, dl, dh⟩ := hcp
    obtain ⟨nv, hnv⟩ : ∃ x : Nat, (tn - 2).toNat = x := ⟨_, rfl⟩
    obtain ⟨dd, hdd⟩ : ∃ x : Nat, (td - 1).toNat = x := ⟨_, rfl⟩
    have NV8 : Hid (nv < 2 ^ 8) := by show _ < _; omega
    have DD : Hid (dd < 4096) := by show _ < _; omega
    have i1 : IntKind.i64.wrap (tn - 2) = nv := by rw [show tn - 2 = (nv : Int) by omega]; exact wrap_nat _ (by omega)
    have i2 : IntKind.i64.wrap (td - 1) = dd := by rw [show td - 1 = (dd : Int) by omega]; exact wrap_nat _ (by omega)
    have hmin : (if 1 < tn then 1 else tn) = 1 := if_pos (by omega)
    have h0 : tn ≠ 0 := by omega
    have KOK := Lib.hid (GD.out.ok.kind (is := 1) (.inr rfl))
    have BW := Lib.hid (cBitS_w c (Ms.pr ⟨p0, p1, be, bt, lt, dt⟩) 1 GD.out.w0 GD.out.w1)
    have BL : Hid ((cBitS c (Ms.pr ⟨p0, p1, be, bt, lt, dt⟩) 1).l.length ≤ 100000001) := by show _ ≤ _; have := cBitS_len c (Ms.pr ⟨p0, p1, be, bt, lt, dt⟩) 1; omega
    have TG := Lib.hid (tRun_good nv 8 (s := cBitS c (Ms.pr ⟨p0, p1, be, bt, lt, dt⟩) 1) (ps := lt) GD.out.ok.o2 BW.out.1 BW.out.2)
    have EQ1 : Hid ((eTok c ⟨p0, p1, be, bt, lt, dt⟩ ⟨tn, td, tb⟩).1 = hRun dd 6 (tRun (dd / 64) 6 ⟨(tRun nv 8 ⟨cBitS c (Ms.pr ⟨p0, p1, be, bt, lt, dt⟩) 1, lt, 1⟩).c, dt, 1⟩).c) := by
      show _ = _; unfold eTok; rw [if_neg h0]; simp only []; rw [hnv, hdd]; unfold Ms.kind; split <;> rfl
    have EQ2 : Hid ((eTok c ⟨p0, p1, be, bt, lt, dt⟩ ⟨tn, td, tb⟩).2 = { Ms.kind ⟨p0, p1, be, bt, lt, dt⟩ 1 with lt := (tRun nv 8 ⟨cBitS c (Ms.pr ⟨p0, p1, be, bt, lt, dt⟩) 1, lt, 1⟩).ps, dt := (tRun (dd / 64) 6 ⟨(tRun nv 8 ⟨cBitS c (Ms.pr ⟨p0, p1, be, bt, lt, dt⟩) 1, lt, 1⟩).c, dt, 1⟩).ps }) := by
      show _ = _; unfold eTok; rw [if_neg h0]; simp only []; rw [hnv, hdd]; unfold Ms.kind; split <;> rfl
    clear hnv hdd
    rcases GD.out.ok.be with hbe | hbe
    · simp only [] at hbe
      subst hbe
      have PV : Ms.pr ⟨p0, p1, 0, bt, lt, dt⟩ = p0 := if_pos rfl
      rw [PV] at BW BL EQ1 EQ2 TG
      clear PV hl h0
      -- from the entry to the kind's region; tn the token's fields as the box holds them (already in w.alloc ..)
      go_enter Try.func71, Try.ntmps71
      go_wp2
      obtain ⟨w1, hw1⟩ : ∃ x, w.alloc (.cells #[.int .i64 tn, .int .i64 td, .int .u8 tb] 43) = x := ⟨_, rfl⟩
      rw [hw1] at K1 B1 H1 SZ
      rw [hw1]
      clear hw1
      have C1 := Lib.hid H1.out.cod
      have S1 : Hid (Blk w1 sb [.int .i64 p0, .int .i64 p1, .int .i64 0, .pointer (some ⟨b1, 0, none⟩), .pointer (some ⟨b2, 0, none⟩), .pointer (some ⟨b3, 0, none⟩)] 105) := H1.out.st
      have T1 := Lib.hid H1.out.tr
      clear H1
      -- the kind: 0 place of the chance, 1 the bit
      have CB := Lib.hid (fun w' (h' : CAt w' b g 146 c.l c.w) => cbit_any b g c.l c.w p0 1 w' h' (by have := GD.out.w0; omega) GD.out.w1 (by have := CL.out; omega))
      go_wp2
      obtain ⟨mS, mh⟩ : ∃ S : World → Prop, ∀ w', S w' ↔ (w'.cell? ⟨sb, 2, none⟩ = some (.int .i64 0) ∧ w'.cell? ⟨sb, 0, none⟩ = some (.int .i64 p0)) := ⟨_, fun _ => Iff.rfl⟩
      have mk0 : ∀ x : Memb mS, x.at_.cell? ⟨sb, 2, none⟩ = some (.int .i64 0) := fun x => ((mh _).1 x.is).1
      have mk1 : ∀ x : Memb mS, x.at_.cell? ⟨sb, 0, none⟩ = some (.int .i64 p0) := fun x => ((mh _).1 x.is).2
      have mn : Nonempty (Memb mS) := ⟨⟨(w1).drew, (mh _).2 ⟨S1.out.cellD 2 _ rfl, S1.out.cellD 0 _ rfl⟩⟩⟩
      have mH := Lib.hid mh
      clear mh
      refine wp_region_mix [16, 20] (InS mS) (by kernel_rfl) (by kernel_rfl) (InS.mk ((mH.out _).2 ⟨S1.out.cellD 2 _ rfl, S1.out.cellD 0 _ rfl⟩)) ?_
      refine wpMix_seg 16 (by kernel_rfl) (by decide) ?_
      simp only [List.take_succ_cons, List.take_zero, List.drop_succ_cons, List.drop_zero]
      repeat (go_big_quiet_step (fail))
      refine wpQuiet_nil ?_
      refine wpMix_eff (by kernel_rfl) ?_
      go_wp2_with fail
      refine (CB.out _ C1.out.drew).mono ?_
      rintro e w2 ⟨rfl, gg, hgg, h2, k2⟩
      have C2 := Lib.hid h2
      have K2 := Lib.hid ((Keeps.refl (fun k => k = b ∨ k = g) w1).drew.trans k2 (T := fun k => k = b ∨ k = g) (fun _ h => h) (fun _ _ h => h))
      have GG : Hid (gg = g ∨ w.heap.size + 1 ≤ gg) := by show _ ∨ _; rcases hgg with h | h; exact .inl h; exact .inr (by have := SZ.out; have h : w1.heap.size ≤ gg := h; omega)
      have S2 := Lib.hid (K2.out.blk S1.out (by show ¬ (_ ∨ _); have := NE.out; omega))
      have B2 := Lib.hid (K2.out.blk B1.out (by show ¬ (_ ∨ _); have := NE.out; omega))
      have y2 := S2.out.cellD 2 _ rfl
      have y0 := S2.out.cellD 0 _ rfl
      have u2 := S2.out.frozen 2
      have u0 := S2.out.frozen 0
      clear h2 k2 hgg
      go_wp2
      refine MixK.on (InS.mk ((mH.out _).2 (⟨S2.out.cellD 2 _ rfl, S2.out.cellD 0 _ rfl⟩))) ?_
      refine wpMix_seg 3 (by kernel_rfl) (by decide) ?_
      simp only [List.take_succ_cons, List.take_zero, List.drop_succ_cons, List.drop_zero]
      repeat (go_big_quiet_step (fail))
      refine wpQuiet_nil ?_
      refine wpMix_eff (by kernel_rfl) ?_
      go_wp2
      refine MixK.last (by kernel_rfl) ?_
      refine wpMix_nil ?_
      clear mk0 mk1 mn mH
      have ks := ((Keeps.self sb w2).put 0 (.int .i64 (adapt p0 1))).put 2 (.int .i64 1)
      have S4 := Lib.hid ((S2.out.set 0 (.int .i64 (adapt p0 1))).set 2 (.int .i64 1))
      have B4 := Lib.hid (ks.blk B2.out (by show ¬ _ = _; have := NE.out; omega))
      have C4 := Lib.hid (C2.out.keeps ks (by show ¬ _ = _; have := NE.out; omega) (by show ¬ _ = _; have := NE.out; have := GG.out; omega))
      have K4 := Lib.hid (K2.out.trans ks (T := fun k => k = b ∨ k = g ∨ k = sb) (fun k h => h.elim .inl (fun h => .inr (.inl h))) (fun k _ h => .inr (.inr h)))
      have T4 := Lib.hid (T1.out.keeps K4.out (fun k h1 h2 => by show ¬ (_ ∨ _ ∨ _); have h1 : g1 ≤ k := h1; have h2 : k ≤ b3 := h2; have := NE.out; omega) OR.out)
      have q1 := B2.out.cellD 1 _ rfl
      have ne1 : ¬ bx = sb := by have := NE.out; omega
      have ne2 : ¬ sb = bx := by have := NE.out; omega
      clear ks S2 B2 C2 K2 S1 B1 C1 T1 CB
      -- a copy, behind the kind
      have CT := Lib.hid (fun w' h1 h2 => ctree_in b gg b2 g2 (cBitS c p0 1) lt 8 nv w' h1 h2 KOK.out.o2 BW.out.1 BW.out.2 (by have := BL.out; omega) (by have := NE.out; omega) (by have := NE.out; omega) (by have := NE.out; have := GG.out; omega) (by have := NE.out; have := GG.out; omega) NV8.out)
      have CT2 := Lib.hid (fun gh w' (hgh : gh = gg ∨ w.heap.size + 1 ≤ gh) h1 h2 => ctree_in b gh b3 g3 (tRun nv 8 ⟨cBitS c p0 1, lt, 1⟩).c dt 6 (dd / 64) w' h1 h2 KOK.out.o3 TG.out.2.1 TG.out.2.2.1 (by have := BL.out; have := TG.out.2.2.2; omega) (by have := NE.out; omega) (by have := NE.out; omega) (by have := NE.out; have := GG.out; omega) (by have := NE.out; have := GG.out; omega) (by show _ < 64; have := DD.out; omega))
      go_wp2
      obtain ⟨w4, hw4⟩ : ∃ x, (w2.setCell ⟨sb, 0, none⟩ (.int .i64 (adapt p0 1))).setCell ⟨sb, 2, none⟩ (.int .i64 1) = x := ⟨_, rfl⟩
      rw [hw4] at S4 B4 C4 K4 T4
      rw [hw4]
      clear hw4 y2 y0 u2 u0 q1 ne1 ne2
      obtain ⟨m2S, m2h⟩ : ∃ S : World → Prop, ∀ w', S w' ↔ (w'.cell? ⟨sb, 4, none⟩ = some (.pointer (some ⟨b2, 0, none⟩)) ∧ w'.cell? ⟨bx, 0, none⟩ = some (.int .i64 tn)) := ⟨_, fun _ => Iff.rfl⟩
      have m2k0 : ∀ x : Memb m2S, x.at_.cell? ⟨sb, 4, none⟩ = some (.pointer (some ⟨b2, 0, none⟩)) := fun x => ((m2h _).1 x.is).1
      have m2k1 : ∀ x : Memb m2S, x.at_.cell? ⟨bx, 0, none⟩ = some (.int .i64 tn) := fun x => ((m2h _).1 x.is).2
      have m2n : Nonempty (Memb m2S) := ⟨⟨(w4).drew, (m2h _).2 ⟨S4.out.cellD 4 _ rfl, B4.out.cellD 0 _ rfl⟩⟩⟩
      have m2H := Lib.hid m2h
      clear m2h
      refine wp_region_mix [8] (InS m2S) (by kernel_rfl) (by kernel_rfl) (InS.mk ((m2H.out _).2 ⟨S4.out.cellD 4 _ rfl, B4.out.cellD 0 _ rfl⟩)) ?_
      refine wpMix_seg 8 (by kernel_rfl) (by decide) ?_
      simp only [List.take_succ_cons, List.take_zero, List.drop_succ_cons, List.drop_zero]
      repeat (go_big_quiet_step (fail))
      refine wpQuiet_nil ?_
      refine wpMix_eff (by kernel_rfl) ?_
      go_wp2_with fail
      refine (CT.out _ C4.out.drew T4.out.t2.drew).mono ?_
      rintro e w5 ⟨rfl, gh, hgh, h5c, h5t, k5⟩
      have K5 := Lib.hid ((Keeps.refl (fun k => k = b ∨ k = gg ∨ k = g2) w4).drew.trans k5 (T := fun k => k = b ∨ k = gg ∨ k = g2) (fun _ h => h) (fun _ _ h => h))
      have H5C := Lib.hid h5c
      have H5T := Lib.hid h5t
      have GH : Hid (gh = gg ∨ w.heap.size + 1 ≤ gh) := by show _ ∨ _; rcases hgh with h | h; exact .inl h; exact .inr (by have h1 := SZ.out; have h2 := K4.out.size; have h3 : w4.heap.size ≤ gh := h; omega)
      have S5 := Lib.hid (K5.out.blk S4.out (by show ¬ (_ ∨ _ ∨ _); have := NE.out; have := GG.out; omega))
      have B5 := Lib.hid (K5.out.blk B4.out (by show ¬ (_ ∨ _ ∨ _); have := NE.out; have := GG.out; omega))
      have X5 := Lib.hid (T4.out.t1.keeps K5.out (by show ¬ (_ ∨ _ ∨ _); have := NE.out; have := GG.out; dsimp only; omega) (by show ¬ (_ ∨ _ ∨ _); have := NE.out; have := GG.out; dsimp only; omega))
      have Y5 := Lib.hid (T4.out.t3.keeps K5.out (by show ¬ (_ ∨ _ ∨ _); have := NE.out; have := GG.out; dsimp only; omega) (by show ¬ (_ ∨ _ ∨ _); have := NE.out; have := GG.out; dsimp only; omega))
      clear k5 h5c h5t hgh
      go_wp2
      refine MixK.last (by kernel_rfl) ?_
      refine wpMix_nil ?_
      clear m2k0 m2k1 m2n m2H
      have s5 := S5.out.cellD 5 _ rfl
      have d5 := B5.out.cellD 1 _ rfl
      clear CT S4 B4 C4 T4
      go_wp2_with fail
      refine (CT2.out gh _ GH.out H5C.out Y5.out).mono ?_
      rintro e w6 ⟨rfl, gi, hgi, h6c, h6t, k6⟩
      have K6 := Lib.hid k6
      have H6C := Lib.hid h6c
      have H6T := Lib.hid h6t
      have GI : Hid (gi = gh ∨ w.heap.size + 1 ≤ gi) := by show _ ∨ _; rcases hgi with h | h; exact .inl h; exact .inr (by have h1 := SZ.out; have h2 := K4.out.size; have h3 := K5.out.size; have h4 : w5.heap.size ≤ gi := h; omega)
      have S6 := Lib.hid (K6.out.blk S5.out (by show ¬ (_ ∨ _ ∨ _); have := NE.out; have := GG.out; have := GH.out; omega))
      have X6 := Lib.hid (X5.out.keeps K6.out (by show ¬ (_ ∨ _ ∨ _); have := NE.out; have := GG.out; have := GH.out; omega) (by show ¬ (_ ∨ _ ∨ _); have := NE.out; have := GG.out; have := GH.out; omega))
      have Y6 := Lib.hid (H5T.out.keeps K6.out (by show ¬ (_ ∨ _ ∨ _); have := NE.out; have := GG.out; have := GH.out; omega) (by show ¬ (_ ∨ _ ∨ _); have := NE.out; have := GG.out; have := GH.out; omega))
      have KF : Hid (Keeps (CMS b g ⟨sb, b1, g1, b2, g2, b3, g3⟩) w w6) := ((K1.out.trans K4.out (T := CMS b g ⟨sb, b1, g1, b2, g2, b3, g3⟩) (fun _ h => h.elim) (fun k _ h => h.elim .inl (fun h => .inr (h.elim .inl (fun h => .inr ⟨by have := NE.out; show g1 ≤ k; omega, by show k ≤ sb; omega⟩))))).trans K5.out (fun _ h => h) (fun k hk h => h.elim .inl (fun h => .inr (h.elim (fun h => by have := GG.out; rcases this with e | e; exact .inl (h.trans e); omega) (fun h => .inr ⟨by have := NE.out; show g1 ≤ k; omega, by have := NE.out; show k ≤ sb; omega⟩))))).trans K6.out (fun _ h => h) (fun k hk h => h.elim .inl (fun h => .inr (h.elim (fun h => by have := GG.out; have := GH.out; rcases Nat.lt_or_ge gh (w.heap.size + 1) with q | q; exact .inl (by omega); omega) (fun h => .inr ⟨by have := NE.out; show g1 ≤ k; omega, by have := NE.out; show k ≤ sb; omega⟩))))
      have SZ6 : Hid (w.heap.size + 1 ≤ w6.heap.size) := by show _ ≤ _; have h1 := SZ.out; have h2 := K4.out.size; have h3 := K5.out.size; have h4 := K6.out.size; omega
      have HF := Lib.hid (show hRun dd 6 (tRun (dd / 64) 6 ⟨(tRun nv 8 ⟨cBitS c p0 1, lt, 1⟩).c, dt, 1⟩).c = (eTok c ⟨p0, p1, 0, bt, lt, dt⟩ ⟨tn, td, tb⟩).1 from EQ1.out.symm)
      obtain ⟨cx, hcx⟩ : ∃ x, (tRun (dd / 64) 6 ⟨(tRun nv 8 ⟨cBitS c p0 1, lt, 1⟩).c, dt, 1⟩).c = x := ⟨_, rfl⟩
      have CXG : Hid (16777216 ≤ cx.w ∧ cx.w < 4294967296 ∧ cx.l.length ≤ 100000100) := by
        show _ ∧ _
        have a := tRun_good (dd / 64) 6 (s := (tRun nv 8 ⟨cBitS c p0 1, lt, 1⟩).c) (ps := dt) GD.out.ok.o3 TG.out.2.1 TG.out.2.2.1
        have b1 := TG.out.2.2.2
        have b2 := BL.out
        rw [← hcx]
        exact ⟨a.2.1, a.2.2.1, by have := a.2.2.2; omega⟩
      rw [hcx] at H6C HF
      clear hcx k6 h6c h6t hgi s5 d5 CT2 S5 B5 X5 Y5 H5C H5T K4 K5 K6
      go_wp2
      go_loopw [8] (fun iv wr => ∃ (j gk : Nat) (cy : CSt), j ≤ 6 ∧ iv = .int .i64 ((j : Int) - 1) ∧ (gk = g ∨ w.heap.size + 1 ≤ gk) ∧ CAt wr b gk 146 cy.l cy.w ∧ (16777216 ≤ cy.w ∧ cy.w < 4294967296 ∧ cy.l.length + j ≤ 100000106) ∧ hRun dd j cy = (eTok c ⟨p0, p1, 0, bt, lt, dt⟩ ⟨tn, td, tb⟩).1 ∧ Blk wr sb (mcells ⟨sb, b1, g1, b2, g2, b3, g3⟩ (eTok c ⟨p0, p1, 0, bt, lt, dt⟩ ⟨tn, td, tb⟩).2) 105 ∧ Trees wr ⟨sb, b1, g1, b2, g2, b3, g3⟩ (eTok c ⟨p0, p1, 0, bt, lt, dt⟩ ⟨tn, td, tb⟩).2 ∧ w.heap.size + 1 ≤ wr.heap.size ∧ Keeps (CMS b g ⟨sb, b1, g1, b2, g2, b3, g3⟩) w wr) (fun iv _ => (intOf iv + 1).toNat)
      case atStart => exact ⟨6, gi, cx, Nat.le_refl _, rfl, by have := GG.out; have := GH.out; have := GI.out; omega, H6C.out, ⟨CXG.out.1, CXG.out.2.1, by have := CXG.out.2.2; omega⟩, HF.out, by rw [EQ2.out]; exact S6.out, by rw [EQ2.out]; exact ⟨X6.out, Y6.out, H6T.out⟩, SZ6.out, KF.out⟩
      case round =>
        obtain ⟨j, gk, cy, hj, hi, hgk, hc, hg, hr, hst, htr, hsz, hk⟩ := hrel
        have SZW := Lib.hid hsz
        have CY := Lib.hid hc
        have CG := Lib.hid hg
        have HR := Lib.hid hr
        have ST := Lib.hid hst
        have TR := Lib.hid htr
        have HK := Lib.hid hk
        have GK := Lib.hid hgk
        obtain ⟨wv, rfl⟩ : ∃ x, x = wr := ⟨_, rfl⟩
        clear hc hg hr hst htr hk hgk hsz SZ6 S6 X6 Y6 H6T H6C KF CXG HF
        cases j with
        | zero =>
          have e0 : ((0 : Nat) : Int) - 1 = -1 := rfl
          rw [e0] at hi
          subst hi
          have e1 : cy = (eTok c ⟨p0, p1, 0, bt, lt, dt⟩ ⟨tn, td, tb⟩).1 := HR.out
          have CF : Hid (CAt wv b gk 146 (eTok c ⟨p0, p1, 0, bt, lt, dt⟩ ⟨tn, td, tb⟩).1.l (eTok c ⟨p0, p1, 0, bt, lt, dt⟩ ⟨tn, td, tb⟩).1.w) := e1 ▸ CY.out
          clear e0 e1
          go_wp2
          go_end0
          exact ⟨rfl, gk, by have := GK.out; omega, ⟨CF.out, ST.out, TR.out, GT.out, OR.out, by have := NE.out; show b < g1; omega, by have := NE.out; have := GK.out; show gk < g1 ∨ sb < gk; omega⟩, HK.out⟩
        | succ i =>
          have e0 : ((i + 1 : Nat) : Int) - 1 = i := by omega
          rw [e0] at hi
          subst hi
          have ev := bit_of2 dd i (by have := DD.out; omega)
          obtain ⟨v0, v1⟩ := vbit_bd dd i
          have CH := Lib.hid (fun w' h1 => chalf_any b gk cy.l cy.w (vbit dd i) w' h1 (by have := CG.out; omega) CG.out.2.1 (by have := CG.out; omega))
          have NX : Hid (hRun dd i ⟨cHalfL cy.l cy.w (vbit dd i), cHalfW cy.w⟩ = (eTok c ⟨p0, p1, 0, bt, lt, dt⟩ ⟨tn, td, tb⟩).1) := HR.out
          have NG := Lib.hid (half_good (c := cy) (vbit dd i) CG.out.1 CG.out.2.1)
          have dd9 := DD.out
          have i5 : i ≤ 5 := by omega
          clear e0 HR
          go_wp2_with fail
          refine (CH.out _ CY.out).mono ?_
          rintro e w8 ⟨rfl, gl, hgl, h8, k8⟩
          have K8 := Lib.hid k8
          have H8 := Lib.hid h8
          have GL : Hid (gl = g ∨ w.heap.size + 1 ≤ gl) := by show _ ∨ _; have := GK.out; rcases hgl with h | h; rw [h]; exact this; exact .inr (by have h2 := SZW.out; omega)
          have SZX : Hid (w.heap.size + 1 ≤ w8.heap.size) := Nat.le_trans SZW.out K8.out.size
          have NGL := Lib.hid CG.out.2.2
          have S8 := Lib.hid (K8.out.blk ST.out (by show ¬ (_ ∨ _); have := NE.out; have := GK.out; omega))
          have T8 := Lib.hid (TR.out.keeps K8.out (fun k h1 h2 => by show ¬ (_ ∨ _); have h1 : g1 ≤ k := h1; have h2 : k ≤ b3 := h2; have := NE.out; have := GK.out; omega) OR.out)
          have KK : Hid (Keeps (CMS b g ⟨sb, b1, g1, b2, g2, b3, g3⟩) w w8) := HK.out.trans K8.out (fun _ h => h) (fun k hk h => h.elim .inl (fun h => .inr (.inl (by have := GK.out; omega))))
          clear k8 h8 hgl ST TR HK CY CH CG
          go_wp2
          go_roundw
          case rel => exact ⟨i, gl, ⟨cHalfL cy.l cy.w (vbit dd i), cHalfW cy.w⟩, by omega, by go_num, GL.out, H8.out, ⟨NG.out.1, NG.out.2.1, by have := NG.out.2.2; have := NGL.out; show (cHalfL cy.l cy.w (vbit dd i)).length + i ≤ _; omega⟩, NX.out, S8.out, T8.out, SZX.out, KK.out⟩
          case measure => simp [intOf]
    · simp only [] at hbe
      subst hbe
      have PV : Ms.pr ⟨p0, p1, 1, bt, lt, dt⟩ = p1 := if_neg (show ¬ (1 : Int) = 0 by decide)
      rw [PV] at BW BL EQ1 EQ2 TG
      clear PV hl h0
      -- from the entry to the kind's region; tn the token's fields as the box holds them (already in w.alloc ..)
      go_enter Try.func71, Try.ntmps71
      go_wp2
      obtain ⟨w1, hw1⟩ : ∃ x, w.alloc (.cells #[.int .i64 tn, .int .i64 td, .int .u8 tb] 43) = x := ⟨_, rfl⟩
      rw [hw1] at K1 B1 H1 SZ
      rw [hw1]
      clear hw1
      have C1 := Lib.hid H1.out.cod
      have S1 : Hid (Blk w1 sb [.int .i64 p0, .int .i64 p1, .int .i64 1, .pointer (some ⟨b1, 0, none⟩), .pointer (some ⟨b2, 0, none⟩), .pointer (some ⟨b3, 0, none⟩)] 105) := H1.out.st
      have T1 := Lib.hid H1.out.tr
      clear H1
      -- the kind: 1 place of the chance, 1 the bit
      have CB := Lib.hid (fun w' (h' : CAt w' b g 146 c.l c.w) => cbit_any b g c.l c.w p1 1 w' h' (by have := GD.out.w0; omega) GD.out.w1 (by have := CL.out; omega))
      go_wp2
      obtain ⟨mS, mh⟩ : ∃ S : World → Prop, ∀ w', S w' ↔ (w'.cell? ⟨sb, 2, none⟩ = some (.int .i64 1) ∧ w'.cell? ⟨sb, 1, none⟩ = some (.int .i64 p1)) := ⟨_, fun _ => Iff.rfl⟩
      have mk0 : ∀ x : Memb mS, x.at_.cell? ⟨sb, 2, none⟩ = some (.int .i64 1) := fun x => ((mh _).1 x.is).1
      have mk1 : ∀ x : Memb mS, x.at_.cell? ⟨sb, 1, none⟩ = some (.int .i64 p1) := fun x => ((mh _).1 x.is).2
      have mn : Nonempty (Memb mS) := ⟨⟨(w1).drew, (mh _).2 ⟨S1.out.cellD 2 _ rfl, S1.out.cellD 1 _ rfl⟩⟩⟩
      have mH := Lib.hid mh
      clear mh
      refine wp_region_mix [16, 20] (InS mS) (by kernel_rfl) (by kernel_rfl) (InS.mk ((mH.out _).2 ⟨S1.out.cellD 2 _ rfl, S1.out.cellD 1 _ rfl⟩)) ?_
      refine wpMix_seg 16 (by kernel_rfl) (by decide) ?_
      simp only [List.take_succ_cons, List.take_zero, List.drop_succ_cons, List.drop_zero]
      repeat (go_big_quiet_step (fail))
      refine wpQuiet_nil ?_
      refine wpMix_eff (by kernel_rfl) ?_
      go_wp2_with fail
      refine (CB.out _ C1.out.drew).mono ?_
      rintro e w2 ⟨rfl, gg, hgg, h2, k2⟩
      have C2 := Lib.hid h2
      have K2 := Lib.hid ((Keeps.refl (fun k => k = b ∨ k = g) w1).drew.trans k2 (T := fun k => k = b ∨ k = g) (fun _ h => h) (fun _ _ h => h))
      have GG : Hid (gg = g ∨ w.heap.size + 1 ≤ gg) := by show _ ∨ _; rcases hgg with h | h; exact .inl h; exact .inr (by have := SZ.out; have h : w1.heap.size ≤ gg := h; omega)
      have S2 := Lib.hid (K2.out.blk S1.out (by show ¬ (_ ∨ _); have := NE.out; omega))
      have B2 := Lib.hid (K2.out.blk B1.out (by show ¬ (_ ∨ _); have := NE.out; omega))
      have y2 := S2.out.cellD 2 _ rfl
      have y0 := S2.out.cellD 1 _ rfl
      have u2 := S2.out.frozen 2
      have u0 := S2.out.frozen 1
      clear h2 k2 hgg
      go_wp2
      refine MixK.on (InS.mk ((mH.out _).2 (⟨S2.out.cellD 2 _ rfl, S2.out.cellD 1 _ rfl⟩))) ?_
      refine wpMix_seg 3 (by kernel_rfl) (by decide) ?_
      simp only [List.take_succ_cons, List.take_zero, List.drop_succ_cons, List.drop_zero]
      repeat (go_big_quiet_step (fail))
      refine wpQuiet_nil ?_
      refine wpMix_eff (by kernel_rfl) ?_
      go_wp2
      refine MixK.last (by kernel_rfl) ?_
      refine wpMix_nil ?_
      clear mk0 mk1 mn mH
      have ks := ((Keeps.self sb w2).put 1 (.int .i64 (adapt p1 1))).put 2 (.int .i64 1)
      have S4 := Lib.hid ((S2.out.set 1 (.int .i64 (adapt p1 1))).set 2 (.int .i64 1))
      have B4 := Lib.hid (ks.blk B2.out (by show ¬ _ = _; have := NE.out; omega))
      have C4 := Lib.hid (C2.out.keeps ks (by show ¬ _ = _; have := NE.out; omega) (by show ¬ _ = _; have := NE.out; have := GG.out; omega))
      have K4 := Lib.hid (K2.out.trans ks (T := fun k => k = b ∨ k = g ∨ k = sb) (fun k h => h.elim .inl (fun h => .inr (.inl h))) (fun k _ h => .inr (.inr h)))
      have T4 := Lib.hid (T1.out.keeps K4.out (fun k h1 h2 => by show ¬ (_ ∨ _ ∨ _); have h1 : g1 ≤ k := h1; have h2 : k ≤ b3 := h2; have := NE.out; omega) OR.out)
      have q1 := B2.out.cellD 1 _ rfl
      have ne1 : ¬ bx = sb := by have := NE.out; omega
      have ne2 : ¬ sb = bx := by have := NE.out; omega
      clear ks S2 B2 C2 K2 S1 B1 C1 T1 CB
      -- a copy, behind the kind
      have CT := Lib.hid (fun w' h1 h2 => ctree_in b gg b2 g2 (cBitS c p1 1) lt 8 nv w' h1 h2 KOK.out.o2 BW.out.1 BW.out.2 (by have := BL.out; omega) (by have := NE.out; omega) (by have := NE.out; omega) (by have := NE.out; have := GG.out; omega) (by have := NE.out; have := GG.out; omega) NV8.out)
      have CT2 := Lib.hid (fun gh w' (hgh : gh = gg ∨ w.heap.size + 1 ≤ gh) h1 h2 => ctree_in b gh b3 g3 (tRun nv 8 ⟨cBitS c p1 1, lt, 1⟩).c dt 6 (dd / 64) w' h1 h2 KOK.out.o3 TG.out.2.1 TG.out.2.2.1 (by have := BL.out; have := TG.out.2.2.2; omega) (by have := NE.out; omega) (by have := NE.out; omega) (by have := NE.out; have := GG.out; omega) (by have := NE.out; have := GG.out; omega) (by show _ < 64; have := DD.out; omega))
      go_wp2
      obtain ⟨w4, hw4⟩ : ∃ x, (w2.setCell ⟨sb, 1, none⟩ (.int .i64 (adapt p1 1))).setCell ⟨sb, 2, none⟩ (.int .i64 1) = x := ⟨_, rfl⟩
      rw [hw4] at S4 B4 C4 K4 T4
      rw [hw4]
      clear hw4 y2 y0 u2 u0 q1 ne1 ne2
      obtain ⟨m2S, m2h⟩ : ∃ S : World → Prop, ∀ w', S w' ↔ (w'.cell? ⟨sb, 4, none⟩ = some (.pointer (some ⟨b2, 0, none⟩)) ∧ w'.cell? ⟨bx, 0, none⟩ = some (.int .i64 tn)) := ⟨_, fun _ => Iff.rfl⟩
      have m2k0 : ∀ x : Memb m2S, x.at_.cell? ⟨sb, 4, none⟩ = some (.pointer (some ⟨b2, 0, none⟩)) := fun x => ((m2h _).1 x.is).1
      have m2k1 : ∀ x : Memb m2S, x.at_.cell? ⟨bx, 0, none⟩ = some (.int .i64 tn) := fun x => ((m2h _).1 x.is).2
      have m2n : Nonempty (Memb m2S) := ⟨⟨(w4).drew, (m2h _).2 ⟨S4.out.cellD 4 _ rfl, B4.out.cellD 0 _ rfl⟩⟩⟩
      have m2H := Lib.hid m2h
      clear m2h
      refine wp_region_mix [8] (InS m2S) (by kernel_rfl) (by kernel_rfl) (InS.mk ((m2H.out _).2 ⟨S4.out.cellD 4 _ rfl, B4.out.cellD 0 _ rfl⟩)) ?_
      refine wpMix_seg 8 (by kernel_rfl) (by decide) ?_
      simp only [List.take_succ_cons, List.take_zero, List.drop_succ_cons, List.drop_zero]
      repeat (go_big_quiet_step (fail))
      refine wpQuiet_nil ?_
      refine wpMix_eff (by kernel_rfl) ?_
      go_wp2_with fail
      refine (CT.out _ C4.out.drew T4.out.t2.drew).mono ?_
      rintro e w5 ⟨rfl, gh, hgh, h5c, h5t, k5⟩
      have K5 := Lib.hid ((Keeps.refl (fun k => k = b ∨ k = gg ∨ k = g2) w4).drew.trans k5 (T := fun k => k = b ∨ k = gg ∨ k = g2) (fun _ h => h) (fun _ _ h => h))
      have H5C := Lib.hid h5c
      have H5T := Lib.hid h5t
      have GH : Hid (gh = gg ∨ w.heap.size + 1 ≤ gh) := by show _ ∨ _; rcases hgh with h | h; exact .inl h; exact .inr (by have h1 := SZ.out; have h2 := K4.out.size; have h3 : w4.heap.size ≤ gh := h; omega)
      have S5 := Lib.hid (K5.out.blk S4.out (by show ¬ (_ ∨ _ ∨ _); have := NE.out; have := GG.out; omega))
      have B5 := Lib.hid (K5.out.blk B4.out (by show ¬ (_ ∨ _ ∨ _); have := NE.out; have := GG.out; omega))
      have X5 := Lib.hid (T4.out.t1.keeps K5.out (by show ¬ (_ ∨ _ ∨ _); have := NE.out; have := GG.out; dsimp only; omega) (by show ¬ (_ ∨ _ ∨ _); have := NE.out; have := GG.out; dsimp only; omega))
      have Y5 := Lib.hid (T4.out.t3.keeps K5.out (by show ¬ (_ ∨ _ ∨ _); have := NE.out; have := GG.out; dsimp only; omega) (by show ¬ (_ ∨ _ ∨ _); have := NE.out; have := GG.out; dsimp only; omega))
      clear k5 h5c h5t hgh
      go_wp2
      refine MixK.last (by kernel_rfl) ?_
      refine wpMix_nil ?_
      clear m2k0 m2k1 m2n m2H
      have s5 := S5.out.cellD 5 _ rfl
      have d5 := B5.out.cellD 1 _ rfl
      clear CT S4 B4 C4 T4
      go_wp2_with fail
      refine (CT2.out gh _ GH.out H5C.out Y5.out).mono ?_
      rintro e w6 ⟨rfl, gi, hgi, h6c, h6t, k6⟩
      have K6 := Lib.hid k6
      have H6C := Lib.hid h6c
      have H6T := Lib.hid h6t
      have GI : Hid (gi = gh ∨ w.heap.size + 1 ≤ gi) := by show _ ∨ _; rcases hgi with h | h; exact .inl h; exact .inr (by have h1 := SZ.out; have h2 := K4.out.size; have h3 := K5.out.size; have h4 : w5.heap.size ≤ gi := h; omega)
      have S6 := Lib.hid (K6.out.blk S5.out (by show ¬ (_ ∨ _ ∨ _); have := NE.out; have := GG.out; have := GH.out; omega))
      have X6 := Lib.hid (X5.out.keeps K6.out (by show ¬ (_ ∨ _ ∨ _); have := NE.out; have := GG.out; have := GH.out; omega) (by show ¬ (_ ∨ _ ∨ _); have := NE.out; have := GG.out; have := GH.out; omega))
      have Y6 := Lib.hid (H5T.out.keeps K6.out (by show ¬ (_ ∨ _ ∨ _); have := NE.out; have := GG.out; have := GH.out; omega) (by show ¬ (_ ∨ _ ∨ _); have := NE.out; have := GG.out; have := GH.out; omega))
      have KF : Hid (Keeps (CMS b g ⟨sb, b1, g1, b2, g2, b3, g3⟩) w w6) := ((K1.out.trans K4.out (T := CMS b g ⟨sb, b1, g1, b2, g2, b3, g3⟩) (fun _ h => h.elim) (fun k _ h => h.elim .inl (fun h => .inr (h.elim .inl (fun h => .inr ⟨by have := NE.out; show g1 ≤ k; omega, by show k ≤ sb; omega⟩))))).trans K5.out (fun _ h => h) (fun k hk h => h.elim .inl (fun h => .inr (h.elim (fun h => by have := GG.out; rcases this with e | e; exact .inl (h.trans e); omega) (fun h => .inr ⟨by have := NE.out; show g1 ≤ k; omega, by have := NE.out; show k ≤ sb; omega⟩))))).trans K6.out (fun _ h => h) (fun k hk h => h.elim .inl (fun h => .inr (h.elim (fun h => by have := GG.out; have := GH.out; rcases Nat.lt_or_ge gh (w.heap.size + 1) with q | q; exact .inl (by omega); omega) (fun h => .inr ⟨by have := NE.out; show g1 ≤ k; omega, by have := NE.out; show k ≤ sb; omega⟩))))
      have SZ6 : Hid (w.heap.size + 1 ≤ w6.heap.size) := by show _ ≤ _; have h1 := SZ.out; have h2 := K4.out.size; have h3 := K5.out.size; have h4 := K6.out.size; omega
      have HF := Lib.hid (show hRun dd 6 (tRun (dd / 64) 6 ⟨(tRun nv 8 ⟨cBitS c p1 1, lt, 1⟩).c, dt, 1⟩).c = (eTok c ⟨p0, p1, 1, bt, lt, dt⟩ ⟨tn, td, tb⟩).1 from EQ1.out.symm)
      obtain ⟨cx, hcx⟩ : ∃ x, (tRun (dd / 64) 6 ⟨(tRun nv 8 ⟨cBitS c p1 1, lt, 1⟩).c, dt, 1⟩).c = x := ⟨_, rfl⟩
      have CXG : Hid (16777216 ≤ cx.w ∧ cx.w < 4294967296 ∧ cx.l.length ≤ 100000100) := by
        show _ ∧ _
        have a := tRun_good (dd / 64) 6 (s := (tRun nv 8 ⟨cBitS c p1 1, lt, 1⟩).c) (ps := dt) GD.out.ok.o3 TG.out.2.1 TG.out.2.2.1
        have b1 := TG.out.2.2.2
        have b2 := BL.out
        rw [← hcx]
        exact ⟨a.2.1, a.2.2.1, by have := a.2.2.2; omega⟩
      rw [hcx] at H6C HF
      clear hcx k6 h6c h6t hgi s5 d5 CT2 S5 B5 X5 Y5 H5C H5T K4 K5 K6
      go_wp2
      go_loopw [8] (fun iv wr => ∃ (j gk : Nat) (cy : CSt), j ≤ 6 ∧ iv = .int .i64 ((j : Int) - 1) ∧ (gk = g ∨ w.heap.size + 1 ≤ gk) ∧ CAt wr b gk 146 cy.l cy.w ∧ (16777216 ≤ cy.w ∧ cy.w < 4294967296 ∧ cy.l.length + j ≤ 100000106) ∧ hRun dd j cy = (eTok c ⟨p0, p1, 1, bt, lt, dt⟩ ⟨tn, td, tb⟩).1 ∧ Blk wr sb (mcells ⟨sb, b1, g1, b2, g2, b3, g3⟩ (eTok c ⟨p0, p1, 1, bt, lt, dt⟩ ⟨tn, td, tb⟩).2) 105 ∧ Trees wr ⟨sb, b1, g1, b2, g2, b3, g3⟩ (eTok c ⟨p0, p1, 1, bt, lt, dt⟩ ⟨tn, td, tb⟩).2 ∧ w.heap.size + 1 ≤ wr.heap.size ∧ Keeps (CMS b g ⟨sb, b1, g1, b2, g2, b3, g3⟩) w wr) (fun iv _ => (intOf iv + 1).toNat)
      case atStart => exact ⟨6, gi, cx, Nat.le_refl _, rfl, by have := GG.out; have := GH.out; have := GI.out; omega, H6C.out, ⟨CXG.out.1, CXG.out.2.1, by have := CXG.out.2.2; omega⟩, HF.out, by rw [EQ2.out]; exact S6.out, by rw [EQ2.out]; exact ⟨X6.out, Y6.out, H6T.out⟩, SZ6.out, KF.out⟩
      case round =>
        obtain ⟨j, gk, cy, hj, hi, hgk, hc, hg, hr, hst, htr, hsz, hk⟩ := hrel
        have SZW := Lib.hid hsz
        have CY := Lib.hid hc
        have CG := Lib.hid hg
        have HR := Lib.hid hr
        have ST := Lib.hid hst
        have TR := Lib.hid htr
        have HK := Lib.hid hk
        have GK := Lib.hid hgk
        obtain ⟨wv, rfl⟩ : ∃ x, x = wr := ⟨_, rfl⟩
        clear hc hg hr hst htr hk hgk hsz SZ6 S6 X6 Y6 H6T H6C KF CXG HF
        cases j with
        | zero =>
          have e0 : ((0 : Nat) : Int) - 1 = -1 := rfl
          rw [e0] at hi
          subst hi
          have e1 : cy = (eTok c ⟨p0, p1, 1, bt, lt, dt⟩ ⟨tn, td, tb⟩).1 := HR.out
          have CF : Hid (CAt wv b gk 146 (eTok c ⟨p0, p1, 1, bt, lt, dt⟩ ⟨tn, td, tb⟩).1.l (eTok c ⟨p0, p1, 1, bt, lt, dt⟩ ⟨tn, td, tb⟩).1.w) := e1 ▸ CY.out
          clear e0 e1
          go_wp2
          go_end0
          exact ⟨rfl, gk, by have := GK.out; omega, ⟨CF.out, ST.out, TR.out, GT.out, OR.out, by have := NE.out; show b < g1; omega, by have := NE.out; have := GK.out; show gk < g1 ∨ sb < gk; omega⟩, HK.out⟩
        | succ i =>
          have e0 : ((i + 1 : Nat) : Int) - 1 = i := by omega
          rw [e0] at hi
          subst hi
          have ev := bit_of2 dd i (by have := DD.out; omega)
          obtain ⟨v0, v1⟩ := vbit_bd dd i
          have CH := Lib.hid (fun w' h1 => chalf_any b gk cy.l cy.w (vbit dd i) w' h1 (by have := CG.out; omega) CG.out.2.1 (by have := CG.out; omega))
          have NX : Hid (hRun dd i ⟨cHalfL cy.l cy.w (vbit dd i), cHalfW cy.w⟩ = (eTok c ⟨p0, p1, 1, bt, lt, dt⟩ ⟨tn, td, tb⟩).1) := HR.out
          have NG := Lib.hid (half_good (c := cy) (vbit dd i) CG.out.1 CG.out.2.1)
          have dd9 := DD.out
          have i5 : i ≤ 5 := by omega
          clear e0 HR
          go_wp2_with fail
          refine (CH.out _ CY.out).mono ?_
          rintro e w8 ⟨rfl, gl, hgl, h8, k8⟩
          have K8 := Lib.hid k8
          have H8 := Lib.hid h8
          have GL : Hid (gl = g ∨ w.heap.size + 1 ≤ gl) := by show _ ∨ _; have := GK.out; rcases hgl with h | h; rw [h]; exact this; exact .inr (by have h2 := SZW.out; omega)
          have SZX : Hid (w.heap.size + 1 ≤ w8.heap.size) := Nat.le_trans SZW.out K8.out.size
          have NGL := Lib.hid CG.out.2.2
          have S8 := Lib.hid (K8.out.blk ST.out (by show ¬ (_ ∨ _); have := NE.out; have := GK.out; omega))
          have T8 := Lib.hid (TR.out.keeps K8.out (fun k h1 h2 => by show ¬ (_ ∨ _); have h1 : g1 ≤ k := h1; have h2 : k ≤ b3 := h2; have := NE.out; have := GK.out; omega) OR.out)
          have KK : Hid (Keeps (CMS b g ⟨sb, b1, g1, b2, g2, b3, g3⟩) w w8) := HK.out.trans K8.out (fun _ h => h) (fun k hk h => h.elim .inl (fun h => .inr (.inl (by have := GK.out; omega))))
          clear k8 h8 hgl ST TR HK CY CH CG
          go_wp2
          go_roundw
          case rel => exact ⟨i, gl, ⟨cHalfL cy.l cy.w (vbit dd i), cHalfW cy.w⟩, by omega, by go_num, GL.out, H8.out, ⟨NG.out.1, NG.out.2.1, by have := NG.out.2.2; have := NGL.out; show (cHalfL cy.l cy.w (vbit dd i)).length + i ≤ _; omega⟩, NX.out, S8.out, T8.out, SZX.out, KK.out⟩
          case measure => simp [intOf]
end Go.Proofs.Ytggjdkkobhefeaa
