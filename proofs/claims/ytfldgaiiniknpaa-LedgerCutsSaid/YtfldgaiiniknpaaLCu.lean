
/- LedgerCuts: where power goes in a call there is the state ahead of it, or the one behind it. Conditions: none but the law's own. -/
import Derived.Test.YtfldgaiiniknpaaLCuXLgRec
import Derived.Test.YtfldgaiiniknpaaLCuXLgSame2
import Derived.Test.YtfldgaiiniknpaaLCuXLgFloor
import Derived.Test.YtfldgaiiniknpaaLCuXJlCuts
namespace Go.Proofs.Ytfldgaiiniknpaa
open Go.RowKit Go.ChangeShapes Go.WideShapes Go.Deep

section Off
variable {P : Program} {ops : Array Oper} {C : World → Prop} {Q : Exit → Act → World → Prop} {E : List Nat}
theorem wpMix_off {k : Nat} {o : Oper} {rest : List Oper} {a : Act} {w : World} (h : wpQuiet P ops C (fun a' => wpMix P ops C E Q (k + 1) rest a' w) [o] a) (hw : Region.wanted o (yielded ops a.tmps) = false) : wpMix P ops C E Q k (o :: rest) a w := by
  rw [wpMix]
  simp only [hw]
  unfold wpQuiet at h
  simp only [hw] at h
  exact h
end Off
/-- A state in a block of the law's own, beside a ledger. -/
structure StAt (w : World) (lb : Nat) (X : JX) (p : Nat) (st : St) (A : Option Addr) (n c : Nat) : Prop where
  o : st.ok
  b : Blk w p (st.cs A n c) 39
  s : ¬ X.S p ∧ ¬ p = lb
  m : ChkV w (fun b => ¬ X.S b ∧ ¬ b = lb) A n c st.k.mid
theorem StAt.later {w w' : World} {lb : Nat} {X : JX} {p : Nat} {st : St} {A : Option Addr} {n c : Nat} (h : StAt w lb X p st A n c) (k : Keeps None w w') : StAt w' lb X p st A n c := ⟨h.o, k.blk h.b (fun h => h), h.s, h.m.later k⟩
theorem StAt.turn {w w' : World} {lb : Nat} {X X' : JX} {p : Nat} {st : St} {A : Option Addr} {n c : Nat} (h : StAt w lb X p st A n c) (t : LGT lb X X' w w') : StAt w' lb X' p st A n c := by
  have hb : ∀ b, b < w.heap.size → ¬ X.S b ∧ ¬ b = lb → ¬ X'.S b ∧ ¬ b = lb := fun b hb hs => ⟨fun h2 => (t.o b h2).elim hs.1 (fun h3 => by omega), hs.2⟩
  refine ⟨h.o, t.keeps.blk h.b (fun hs => hs.elim h.s.1 h.s.2), hb p h.b.lt h.s, (h.m.lt.keeps t.keeps (fun b hb hs => hs.elim hb.1.1 hb.1.2)).mono (fun b h2 => hb b h2.2 h2.1)⟩
theorem StAt.new {w w1 w2 : World} {lb : Nat} {X : JX} {st : St} {A : Option Addr} {n c : Nat} (o : st.ok) (hX : ∀ b, X.S b → b < w.heap.size) (hl : lb < w.heap.size) (k1 : Keeps None w w1) (m : ChkV w1 (fun b => False ∨ w.heap.size ≤ b) A n c st.k.mid)
    (k2 : Keeps None w1 w2) (b : Blk w2 w1.heap.size (st.cs A n c) 39) : StAt w2 lb X w1.heap.size st A n c :=
  have hz := k1.size
  ⟨o, b, ⟨fun h => by have := hX _ h; omega, by omega⟩, (m.later k2).mono (fun b hb => hb.elim (fun h => h.elim) (fun h => ⟨fun h2 => by have := hX _ h2; omega, by omega⟩))⟩
theorem LG.flash {W w w' : World} {B q lb jb : Nat} {X : JX} {s s' : FS} {j : JS} {st : St} {A : Option Addr} {n cap : Nat} {L' : FL} (h : LG W w B q lb jb X s j st A n cap) (t : Turn w w' B X.L L' s') : LG W w' B q lb jb { X with L := L' } s' j st A n cap ∧ LGT lb X { X with L := L' } w w' :=
  ⟨h.turn (h.lj.flash t).2, LGT.jturn (h.lj.flash t).2⟩
theorem rec_run_eq {w : World} {A : Option Addr} {n0 c0 : Nat} {ls : List AV} (h : ActsV w A n0 c0 ls) {i : Nat} {a : AV} (hi : ls[i]? = some a) {b off : Nat} (e : A = some ⟨b, off, none⟩) : w.rangeAt b (off + i * 84) a.cs := fun j v hv => by
  obtain ⟨b', off', e', -, hc⟩ := h.at_ (by have := (List.getElem?_eq_some_iff.1 hi).1; rw [h.len] at this; omega)
  rw [e] at e'
  cases e'
  exact hc i a hi j v hv
theorem run_load_st {w : World} {g : Nat} {s : St} {A : Option Addr} {n cap : Nat} {T : TypeId} (h : Blk w g (s.cs A n cap) T) (o : s.ok) : (Instr.loadAt 39 (.pointer (some ⟨g, 0, none⟩))).run Try.prog w = .ok (.agg (s.cs A n cap).toArray) w :=
  run_loadAt_mid w g 0 39 (s.cs A n cap) _ (blk_range h (fun j v hv => by rw [Nat.zero_add]; exact hv)) Try.underlying39 rfl (by rw [St.cs_len o]; exact st_size)
theorem act_size : (Try.prog.info? 49).map (·.size) = some 84 := by kernel_rfl
set_option maxRecDepth 100000 in
set_option maxHeartbeats 6400000 in
theorem cuts23_any (A0 : Option Addr) (n0 c0 : Nat) (ls : List AV) (a : AV) (after : Int) (A2 : Option Addr) (m2 c2 : Nat) (ps : List Int) (W : World) (h0 : ActsV W A0 n0 c0 ls) (ha : a.ok W) (h2 : Bs W A2 m2 c2 ps) (hx : after ≤ 9223372036854775807) :
    Calls Try.prog 6 #[.slice A0 n0 c0, .agg a.cs.toArray, .int .i64 after, .slice A2 m2 c2] W fun e W' => e = .returned (.bool true) ∧ Below W.heap.size W W' := by
  have y0 := h0.le
  have x0 := h0.max
  have y2 := h2.le
  have x2 := h2.max
  have H0 := Lib.hid h0
  have L0 := Lib.hid h0.len
  have HA := Lib.hid ha
  have H2 := Lib.hid h2
  have HX := Lib.hid hx
  obtain ⟨w0, hw0⟩ : ∃ x, W.alloc (.cells a.cs.toArray 49) = x := ⟨_, rfl⟩
  have CB0 : Hid (Blk w0 W.heap.size a.cs 49) := by rw [← hw0]; exact Blk.new W a.cs 49
  have K0 : Hid (Keeps None W w0) := by rw [← hw0]; exact (Keeps.refl None W).alloc _
  have AL := Lib.hid (alive23_any w0)
  obtain ⟨V, hV⟩ : ∃ V, a.cs.toArray = V := ⟨_, rfl⟩
  rw [hV] at hw0 ⊢
  have HV := Lib.hid hV
  clear h0 ha h2 hx hV
  go_enter Try.func6, Try.ntmps6
  go_wp2_with fail
  refine AL.out.mono ?_
  rintro e w1 ⟨rfl, k1⟩
  have K1 := Lib.hid (K0.out.trans k1 (T := None) (fun _ h => h) (fun _ _ h => h))
  have CB := Lib.hid (k1.blk CB0.out (fun h => h))
  clear k1 CB0 K0 hw0 AL
  by_cases g1 : 25 < n0
  · have d1 : decide (25 < (n0 : Int)) = true := decide_eq_true (by omega)
    go_wp2
    go_ret
    exact ⟨rfl, K1.out.below (fun _ _ h => h)⟩
  have d1 : decide (25 < (n0 : Int)) = false := decide_eq_false (by omega)
  by_cases g2 : after < 0
  · have d2 : decide (after < 0) = true := decide_eq_true (by omega)
    go_wp2
    go_ret
    exact ⟨rfl, K1.out.below (fun _ _ h => h)⟩
  have d2 : decide (after < 0) = false := decide_eq_false (by omega)
  by_cases g3 : 1024 < m2
  · have d3 : decide (1024 < (m2 : Int)) = true := decide_eq_true (by omega)
    go_wp2
    go_ret
    exact ⟨rfl, K1.out.below (fun _ _ h => h)⟩
  have d3 : decide (1024 < (m2 : Int)) = false := decide_eq_false (by omega)
  have GG : Hid (n0 ≤ 25 ∧ m2 ≤ 1024) := ⟨by omega, by omega⟩
  have H01 : Hid (∀ w, Keeps None w1 w → ∀ (i : Nat) (b : AV), ls[i]? = some b → b.ok w) := fun w k i b hb => ((H0.out.ok b (List.mem_of_getElem? hb)).keeps K1.out).keeps k
  have R01 : Hid (∀ w, Keeps None w1 w → ∀ i b, ls[i]? = some b → ∀ g off, A0 = some ⟨g, off, none⟩ → w.rangeAt g (off + i * 84) b.cs) := fun w k i b hb g off e j v hv => by
    obtain ⟨g', off', e', hlt, hc⟩ := H0.out.at_ (by have := (List.getElem?_eq_some_iff.1 hb).1; rw [L0.out] at this; omega)
    rw [e] at e'
    cases e'
    have h1 := hc i b hb j v hv
    rw [← K1.out.cell hlt (fun h => h), ← k.cell (p := ⟨g, off + i * 84 + j, none⟩) (Nat.lt_of_lt_of_le hlt K1.out.size) (fun h => h)] at h1
    exact h1
  have AD : Hid (0 < n0 → ∃ gb off, A0 = some ⟨gb, off, none⟩) := fun h => by
    obtain ⟨gb, off, e, -⟩ := H0.out.at_ h
    exact ⟨gb, off, e⟩
  have HA1 : Hid (∀ w, Keeps None w1 w → a.ok w ∧ Blk w W.heap.size a.cs 49) := fun w k => ⟨(HA.out.keeps K1.out).keeps k, k.blk CB.out (fun h => h)⟩
  have P1 : Hid (∀ w, Keeps None w1 w → Bs w A2 m2 c2 ps) := fun w k => (H2.out.keeps K1.out (fun _ _ _ _ _ h => h)).keeps k (fun _ _ _ _ _ h => h)
  have PB := Lib.hid H2.out.byte
  have V0 := Lib.hid (Live.new 2 (by decide) (by decide))
  have NW := Lib.hid (lnew (Keeps.refl None w1) ((2 : Nat) : Int))
  clear g1 g2 g3 H0 H2 HA CB
  generalize newF ((2 : Nat) : Int) = f0 at *
  go_wp2_with fail
  refine NW.out.mono ?_
  rintro e w2 ⟨q, L, rfl, hF⟩
  have HF := Lib.hid hF
  clear hF NW
  go_wp2_with fail
  refine (open23_any HF.out V0.out.g V0.out.dark V0.out.keep).mono ?_
  rintro e w3 ⟨X, jb, lb, A3, n3, c3, rfl, g3, -, -, -⟩
  have G3 := Lib.hid g3
  clear g3 HF
  obtain ⟨B, hB⟩ : ∃ x, w1.heap.size = x := ⟨_, rfl⟩
  rw [hB] at G3
  clear hB
  go_wp2
  clear d1 d2 d3
  go_loopw [12] (fun iv wr => ∃ (i : Nat) (X : JX) (s : FS) (e : Nat) (c : Int) (l : List Rec) (T : List Int) (A : Option Addr) (n cap : Nat), i ≤ n0 ∧ iv = .int .i64 i ∧ Live s 2 e c l T (100 - 2 * i) ∧ e ≤ i ∧ LG w1 wr B q lb jb X s (keptJ e c l T) (foldS l) A n cap) (fun iv _ => n0 - (intOf iv).toNat)
  case atStart => exact ⟨0, X, f0, 0, -1, [], [], A3, n3, c3, Nat.zero_le _, rfl, V0.out, Nat.le_refl _, G3.out⟩
  case round =>
    obtain ⟨i, X5, s5, e5, c5, l5, T5, A5, n5, cap5, hi, rfl, hv, he, hg⟩ := hrel
    have HV5 := Lib.hid hv
    have HG := Lib.hid hg
    clear hv hg G3 V0
    have G1 := GG.out.1
    have K5 := Lib.hid HG.out.lj.keeps
    by_cases hlt : i < n0
    · have hir : i < ls.length := by rw [L0.out]; exact hlt
      obtain ⟨r, hr0⟩ : ∃ r, ls[i]? = some r := ⟨_, List.getElem?_eq_getElem hir⟩
      have RO := Lib.hid (H01.out _ K5.out i r hr0)
      obtain ⟨gb, off, rfl⟩ := AD.out (by omega)
      have RR := Lib.hid (R01.out _ K5.out i r hr0 gb off rfl)
      obtain ⟨s6, e6, c6, l6, T6, er6, p1, p2, p3⟩ := Live.act (m := 98 - 2 * i) (HV5.out.less (by omega)) (by omega) RO.out
      have P6 := Lib.hid p2
      have DO := Lib.hid (do23_any (m := 1625 * (98 - 2 * i)) HG.out HV5.out.keep.ok RO.out (fun kind body hb => app_ok HV5.out.g HV5.out.dark HV5.out.keep kind hb) (HV5.out.rm.less (by omega)))
      rw [p1] at DO
      clear hr0 p1 p2
      go_wp2_with (refine wpList_load_mid rfl _ _ rfl gb (off + i * 84) rfl r.cs _ RR.out Try.underlying49 rfl (by rw [AV.cs_len RO.out]; exact act_size) ?_)
      go_wp2_with fail
      refine DO.out.mono ?_
      rintro e w6 ⟨rfl, X6, A6, n6, cap6, g6, -⟩
      have G6 := Lib.hid g6
      clear g6 DO RR
      go_wp2
      go_roundw
      case rel => exact ⟨i + 1, X6, s6, e6, c6, l6, T6, A6, n6, cap6, by omega, by go_num, P6.out.less (by omega), by omega, G6.out⟩
      case measure => simp [intOf]; omega
    · obtain rfl : i = n0 := by omega
      have ARM := Lib.hid (Live.cutAct (m := 40) (HV5.out.less (by omega)) after PB.out (by omega) (HA1.out _ K5.out).1)
      have OK5 := Lib.hid HV5.out.keep.ok
      have FO := Lib.hid (foldS_inv HV5.out.keep.bytG).ok
      have AP5 : Hid (∀ kind body, Byt body → JOk (appF (s5.armF after ps) (keptJ e5 c5 l5 T5) kind body).2.1 ∧ 2 ≤ (appF (s5.armF after ps) (keptJ e5 c5 l5 T5) kind body).1.er.length) := fun kind body hb => app_ok (HV5.out.g.arm after PB.out) (by rw [(armF_b s5 after ps).2]; exact HV5.out.dark) (HV5.out.keep.arm after ps) kind hb
      have RM5 : Hid (JRm (s5.armF after ps) (1625 * 40 + 3250)) := (HV5.out.rm.arm after ps).less (by omega)
      obtain ⟨s6, j6, st6, er, e6, c6, l6, T6, p1, p2, p3, -, p5⟩ := ARM.out
      have Q1 := Lib.hid p1
      have V6 := Lib.hid p3
      have D6 := Lib.hid p5
      have FI6 := Lib.hid (foldS_inv V6.out.keep.bytG)
      clear ARM p1 p2 p3 p5 HV5
      generalize keptJ e5 c5 l5 T5 = j5 at *
      generalize foldS l5 = sa at *
      have HXX : Hid (∀ b, X5.S b → b < wr.heap.size) := fun b h => HG.out.lj.at_.lt b h
      have HLB := Lib.hid HG.out.l.lt
      go_wp2_with fail
      refine (lgstate_any HG.out).mono ?_
      rintro e w7 ⟨A7, n7, c7, rfl, m7, k7⟩
      have M7 := Lib.hid m7
      have G7 := Lib.hid (HG.out.later k7)
      have K7 := Lib.hid k7
      unfold St.v
      clear m7 k7 HG
      -- a state that Fold gives, put into a block: w7 the world ahead, sa state, A7 n7 c7 its slice, FO its fact, w8 behind
      have NBx := Lib.hid (Blk.new w7 (stZ.cs none 0 0) 39)
      have KNx : Hid (Keeps None w7 ((w7).alloc (.cells (stZ.cs none 0 0).toArray 39))) := (Keeps.refl None w7).alloc _
      rw [← st_zero] at NBx KNx
      go_wp2_with (refine wpList_store_blk (b := (w7).heap.size) (o := 0) (ds := St.cs sa A7 n7 c7) NBx.out (by rw [St.cs_len FO.out, St.cs_len stZ_ok]; decide) (St.cs_one _ _ _ _) rfl rfl rfl rfl (by rw [St.cs_len FO.out]; exact st_size) ?_)
      intro w8 bx kx
      rw [splice_all (by rw [St.cs_len FO.out, St.cs_len stZ_ok])] at bx
      have SBw8 := Lib.hid bx
      have Kw8 := Lib.hid (KNx.out.trans kx (T := None) (fun _ h => h) (fun b hb e => absurd e (by omega)))
      clear bx kx NBx KNx
      have S8 := Lib.hid (StAt.new FO.out HXX.out HLB.out K7.out M7.out Kw8.out SBw8.out)
      have G8 := Lib.hid (G7.out.later Kw8.out)
      obtain ⟨pa, hpa⟩ : ∃ x, w7.heap.size = x := ⟨_, rfl⟩
      rw [hpa] at S8 ⊢
      clear hpa SBw8 Kw8 M7 G7 K7 HXX HLB K5
      go_wp2_with fail
      refine (larm G8.out.lj.lf (P1.out _ G8.out.lj.keeps) (by have := GG.out.2; omega) after HX.out).mono ?_
      rintro e w9 ⟨rfl, L9, -, t9⟩
      have G9 := Lib.hid (G8.out.flash t9).1
      have S9 := Lib.hid (S8.out.turn (G8.out.flash t9).2)
      have BX9 := Lib.hid (HA1.out _ G9.out.lj.keeps).2
      have AO9 := Lib.hid (HA1.out _ G9.out.lj.keeps).1
      have DO := Lib.hid (do23_any G9.out OK5.out AO9.out AP5.out RM5.out)
      rw [Q1.out] at DO
      clear t9 G8 S8
      go_wp2_with (refine wpList_load_blk (b := W.heap.size) (o := 0) (ds := a.cs) BX9.out (fun j v hv => by rw [Nat.zero_add]; exact hv) rfl rfl rfl Try.underlying49 rfl (by rw [AV.cs_len AO9.out]; exact act_size) ?_)
      go_wp2_with fail
      refine DO.out.mono ?_
      rintro e wA ⟨rfl, XA, AA, nA, cA, gA, tA⟩
      have GA := Lib.hid gA
      have SA := Lib.hid (S9.out.turn tA)
      clear gA tA DO BX9 AO9 G9 S9 AP5 RM5 OK5
      simp only [] at GA
      have STO := Lib.hid GA.out.inv.ok
      have HXX : Hid (∀ b, XA.S b → b < wA.heap.size) := fun b h => GA.out.lj.at_.lt b h
      have HLB := Lib.hid GA.out.l.lt
      go_wp2_with fail
      refine (lgstate_any GA.out).mono ?_
      rintro e wB ⟨AB, nB, cB, rfl, mB, kB⟩
      have MB := Lib.hid mB
      have GB := Lib.hid (GA.out.later kB)
      have SB := Lib.hid (SA.out.later kB)
      have KB := Lib.hid kB
      unfold St.v
      clear mB kB GA SA
      -- a state that Fold gives, put into a block: wB the world ahead, st6 state, AB nB cB its slice, STO its fact, wC behind
      have NBx := Lib.hid (Blk.new wB (stZ.cs none 0 0) 39)
      have KNx : Hid (Keeps None wB ((wB).alloc (.cells (stZ.cs none 0 0).toArray 39))) := (Keeps.refl None wB).alloc _
      rw [← st_zero] at NBx KNx
      go_wp2_with (refine wpList_store_blk (b := (wB).heap.size) (o := 0) (ds := St.cs st6 AB nB cB) NBx.out (by rw [St.cs_len STO.out, St.cs_len stZ_ok]; decide) (St.cs_one _ _ _ _) rfl rfl rfl rfl (by rw [St.cs_len STO.out]; exact st_size) ?_)
      intro wC bx kx
      rw [splice_all (by rw [St.cs_len STO.out, St.cs_len stZ_ok])] at bx
      have SBwC := Lib.hid bx
      have KwC := Lib.hid (KNx.out.trans kx (T := None) (fun _ h => h) (fun b hb e => absurd e (by omega)))
      clear bx kx NBx KNx
      have TC := Lib.hid (StAt.new STO.out HXX.out HLB.out KB.out MB.out KwC.out SBwC.out)
      have GC := Lib.hid (GB.out.later KwC.out)
      have SC := Lib.hid (SB.out.later KwC.out)
      obtain ⟨pb, hpb⟩ : ∃ x, wB.heap.size = x := ⟨_, rfl⟩
      rw [hpb] at TC ⊢
      clear hpb SBwC KwC MB GB KB HXX HLB SB
      go_wp2_with fail
      refine (lboot GC.out.lj.lf).mono ?_
      rintro e wD ⟨rfl, LD, -, tD⟩
      have GD := Lib.hid (GC.out.flash tD).1
      have SD := Lib.hid (SC.out.turn (GC.out.flash tD).2)
      have TD := Lib.hid (TC.out.turn (GC.out.flash tD).2)
      clear tD GC SC TC
      go_wp2_with fail
      refine (open23_any GD.out.lj.lf V6.out.g V6.out.dark V6.out.keep).mono ?_
      rintro e wE ⟨XE, jbE, lbE, AE, nE, cE, rfl, gE, -, kE, -⟩
      have GE := Lib.hid gE
      have SE := Lib.hid (SD.out.later kE)
      have TE := Lib.hid (TD.out.later kE)
      clear gE kE GD SD TD
      generalize keptJ e6 c6 l6 T6 = j7 at *
      generalize foldS l6 = sb at *
      have NBO := Lib.hid FI6.out.ok
      have HXX : Hid (∀ b, XE.S b → b < wE.heap.size) := fun b h => GE.out.lj.at_.lt b h
      have HLB := Lib.hid GE.out.l.lt
      go_wp2_with fail
      refine (lgstate_any GE.out).mono ?_
      rintro e wF ⟨AF, nF, cF, rfl, mF, kF⟩
      have MF := Lib.hid mF
      have KE0 := Lib.hid (GE.out.lj.keeps.trans kF (T := None) (fun _ h => h) (fun _ _ h => h))
      have SF := Lib.hid (SE.out.later kF)
      have TF := Lib.hid (TE.out.later kF)
      have KF := Lib.hid kF
      unfold St.v
      clear mF kF GE SE TE
      -- a state that Fold gives, put into a block: wF the world ahead, sb state, AF nF cF its slice, NBO its fact, wG behind
      have NBx := Lib.hid (Blk.new wF (stZ.cs none 0 0) 39)
      have KNx : Hid (Keeps None wF ((wF).alloc (.cells (stZ.cs none 0 0).toArray 39))) := (Keeps.refl None wF).alloc _
      rw [← st_zero] at NBx KNx
      go_wp2_with (refine wpList_store_blk (b := (wF).heap.size) (o := 0) (ds := St.cs sb AF nF cF) NBx.out (by rw [St.cs_len NBO.out, St.cs_len stZ_ok]; decide) (St.cs_one _ _ _ _) rfl rfl rfl rfl (by rw [St.cs_len NBO.out]; exact st_size) ?_)
      intro wG bx kx
      rw [splice_all (by rw [St.cs_len NBO.out, St.cs_len stZ_ok])] at bx
      have SBwG := Lib.hid bx
      have KwG := Lib.hid (KNx.out.trans kx (T := None) (fun _ h => h) (fun b hb e => absurd e (by omega)))
      clear bx kx NBx KNx
      have UG := Lib.hid (StAt.new NBO.out HXX.out HLB.out KF.out MF.out KwG.out SBwG.out)
      have SG := Lib.hid (SF.out.later KwG.out)
      have TG := Lib.hid (TF.out.later KwG.out)
      have KG := Lib.hid (KE0.out.trans KwG.out (T := None) (fun _ h => h) (fun _ _ h => h))
      have KGW := Lib.hid (K1.out.trans KG.out (T := None) (fun _ h => h) (fun _ _ h => h))
      obtain ⟨pc, hpc⟩ : ∃ x, wF.heap.size = x := ⟨_, rfl⟩
      rw [hpc] at UG ⊢
      clear hpc SBwG KwG MF KF HXX HLB SF TF KE0 V6 FI6
      have LDS : Hid (∀ w', Keeps None wG w' → (Instr.loadAt 39 (.pointer (some ⟨pa, 0, none⟩))).run Try.prog w' = .ok (.agg (sa.cs A7 n7 c7).toArray) w' ∧ (Instr.loadAt 39 (.pointer (some ⟨pb, 0, none⟩))).run Try.prog w' = .ok (.agg (st6.cs AB nB cB).toArray) w' ∧ (Instr.loadAt 39 (.pointer (some ⟨pc, 0, none⟩))).run Try.prog w' = .ok (.agg (sb.cs AF nF cF).toArray) w') := fun w' k =>
        ⟨run_load_st (SG.out.later k).b SG.out.o, run_load_st (TG.out.later k).b TG.out.o, run_load_st (UG.out.later k).b UG.out.o⟩
      rcases D6.out with ⟨her, hs⟩ | ⟨her, hs, hst⟩
      · subst her
        rw [hs] at TG LDS
        clear hs D6
        have SM := Lib.hid (rgsame_all sb sb NBO.out NBO.out AF AB nF cF nB cB wG UG.out.m.b TG.out.m.b)
        rw [sameB_refl] at SM
        go_wp2_with (first | (with_reducible show wpList _ _ _ ({ dst := some 79, op := _, type := _, pos := _, after := _, guard := _ } :: _) _ _; refine wpList_load_blk (b := pc) (o := 0) (ds := sb.cs AF nF cF) UG.out.b (fun j v hv => by rw [Nat.zero_add]; exact hv) rfl rfl rfl Try.underlying39 rfl (by rw [St.cs_len NBO.out]; exact st_size) ?_) | (with_reducible show wpList _ _ _ ({ dst := some 80, op := _, type := _, pos := _, after := _, guard := _ } :: _) _ _; refine wpList_load_blk (b := pb) (o := 0) (ds := sb.cs AB nB cB) TG.out.b (fun j v hv => by rw [Nat.zero_add]; exact hv) rfl rfl rfl Try.underlying39 rfl (by rw [St.cs_len NBO.out]; exact st_size) ?_))
        go_wp2_with fail
        refine SM.out.mono ?_
        rintro e wH ⟨rfl, kH⟩
        have KH := Lib.hid (KGW.out.trans kH (T := None) (fun _ h => h) (fun _ _ h => h))
        clear kH
        go_wp2
        go_ret
        exact ⟨rfl, KH.out.below (fun _ _ h => h)⟩
      · have d9 : (er == 0) = false := by simpa using her
        rw [hs] at TG LDS
        have HST := Lib.hid hst
        clear hs D6 her hst
        have RC := Lib.hid (fun w (k : Keeps None wG w) => lgrecs_any sa FO.out A7 n7 c7 _ w (SG.out.later k).m)
        have RD := Lib.hid (fun w (k : Keeps None wG w) => record23_any (HA1.out _ (KG.out.trans k (T := None) (fun _ h => h) (fun _ _ h => h))).1)
        have LA : Hid (∀ w', Keeps None wG w' → (Instr.loadAt 49 (.pointer (some ⟨W.heap.size, 0, none⟩))).run Try.prog w' = .ok (.agg a.cs.toArray) w') := fun w' k => by
          have hb := HA1.out _ (KG.out.trans k (T := None) (fun _ h => h) (fun _ _ h => h))
          exact run_loadAt_mid w' W.heap.size 0 49 a.cs _ (blk_range hb.2 (fun j v hv => by rw [Nat.zero_add]; exact hv)) Try.underlying49 rfl (by rw [AV.cs_len hb.1]; exact act_size)
        unfold St.v at RC
        have KR := Lib.hid (Keeps.refl None wG)
        obtain ⟨RX, hRX⟩ : ∃ x, actRec a = x := ⟨_, rfl⟩
        have RXS : RX.s = 0 := by rw [← hRX, actRec_eta]
        have RXB : Hid (Byt RX.b) := by show Byt _; rw [← hRX]; exact actRec_byt (HA1.out _ KG.out).1
        rw [hRX] at RD HST
        obtain ⟨rk, rsq, rb⟩ := RX
        simp only [] at RXS
        subst RXS
        unfold GotRec at RD
        simp only [] at RD
        clear hRX
        go_wp2
        obtain ⟨mS, mh⟩ : ∃ S : World → Prop, ∀ w', S w' ↔ (((Instr.loadAt 39 (.pointer (some ⟨pa, 0, none⟩))).run Try.prog w' = .ok (.agg (sa.cs A7 n7 c7).toArray) w') ∧ ((Instr.loadAt 49 (.pointer (some ⟨W.heap.size, 0, none⟩))).run Try.prog w' = .ok (.agg a.cs.toArray) w')) := ⟨_, fun _ => Iff.rfl⟩
        have mk0 : ∀ x : Memb mS, (Instr.loadAt 39 (.pointer (some ⟨pa, 0, none⟩))).run Try.prog x.at_ = .ok (.agg (sa.cs A7 n7 c7).toArray) x.at_ := fun x => ((mh _).1 x.is).1
        have mk1 : ∀ x : Memb mS, (Instr.loadAt 49 (.pointer (some ⟨W.heap.size, 0, none⟩))).run Try.prog x.at_ = .ok (.agg a.cs.toArray) x.at_ := fun x => ((mh _).1 x.is).2
        have mn : Nonempty (Memb mS) := ⟨⟨(wG).drew, (mh _).2 ⟨(LDS.out _ KR.out.drew).1, LA.out _ KR.out.drew⟩⟩⟩
        have mH := Lib.hid mh
        clear mh
        refine wp_region_mix [1, 3, 4, 5] (InS mS) (by kernel_rfl) (by kernel_rfl) (InS.mk ((mH.out _).2 ⟨(LDS.out _ KR.out.drew).1, LA.out _ KR.out.drew⟩)) ?_
        refine wpMix_seg 1 (by kernel_rfl) (by decide) ?_
        simp only [List.take_succ_cons, List.take_zero, List.drop_succ_cons, List.drop_zero]
        repeat (first | go_big_quiet_step (fail) | (go_big_quiet_want; first | refine quiet_load mk0 rfl rfl rfl (by simp only [Act.put, List.setIfInBounds_toArray, List.set_cons_succ, List.set_cons_zero]; rfl) ?_; go_big_quiet_on | refine quiet_load mk1 rfl rfl rfl (by simp only [Act.put, List.setIfInBounds_toArray, List.set_cons_succ, List.set_cons_zero]; rfl) ?_; go_big_quiet_on))
        refine wpQuiet_nil ?_
        refine wpMix_eff (by kernel_rfl) ?_
        go_wp2_with fail
        refine (RC.out _ KR.out.drew).mono ?_
        rintro e wH ⟨vH, rsH, rfl, cpH, hmH⟩
        obtain ⟨AH, cH, rfl, rH, -⟩ := cpH.o.shape
        have qH := rH.le
        have qI := rH.max
        have LH : rsH.length ≤ 2 := by (have h1 := congrArg List.length hmH; have h2 := recsS_len sa; rw [List.length_map] at h1; omega)
        have CPH := Lib.hid cpH
        have HMH := Lib.hid hmH
        have XH := Lib.hid (KR.out.drew.trans cpH.k (T := None) (fun _ h => h) (fun _ _ h => h))
        have HLH : Hid (∀ b, (Value.slice AH rsH.length cH).ownBlock = some b → b < wH.heap.size) := fun b h => (cpH.o.block h).2
        clear cpH hmH rH RC
        go_wp2
        refine MixK.on (InS.mk ((mH.out _).2 (⟨(LDS.out _ XH.out).1, LA.out _ XH.out⟩))) ?_
        refine wpMix_seg 1 (by kernel_rfl) (by decide) ?_
        simp only [List.take_succ_cons, List.take_zero, List.drop_succ_cons, List.drop_zero]
        repeat (first | go_big_quiet_step (fail) | (go_big_quiet_want; first | refine quiet_load mk0 rfl rfl rfl (by simp only [Act.put, List.setIfInBounds_toArray, List.set_cons_succ, List.set_cons_zero]; rfl) ?_; go_big_quiet_on | refine quiet_load mk1 rfl rfl rfl (by simp only [Act.put, List.setIfInBounds_toArray, List.set_cons_succ, List.set_cons_zero]; rfl) ?_; go_big_quiet_on))
        refine wpQuiet_nil ?_
        refine wpMix_eff (by kernel_rfl) ?_
        go_wp2_with fail
        refine (RD.out _ XH.out).mono ?_
        rintro e wI ⟨AI, nI, cI, rfl, mI, kI⟩
        have XI := Lib.hid (XH.out.trans kI (T := None) (fun _ h => h) (fun _ _ h => h))
        have CPI := Lib.hid (CPH.out.later kI)
        have MI := Lib.hid mI.lt
        have szI := kI.size
        have szH : wG.heap.size ≤ wH.heap.size := XH.out.size
        clear mI kI CPH RD
        go_wp2
        refine MixK.on (InS.mk ((mH.out _).2 (⟨(LDS.out _ XI.out).1, LA.out _ XI.out⟩))) ?_
        refine wpMix_eff (by kernel_rfl) ?_
        go_wp2
        refine MixK.on (InS.mk ((mH.out _).2 (⟨(LDS.out _ (XI.out.alloc _)).1, LA.out _ (XI.out.alloc _)⟩))) ?_
        refine wpMix_eff (by kernel_rfl) ?_
        go_wp2_with (at_builtin; refine Hid.out ?_)
        refine Lib.hid ?_
        refine wpList_append_recs (ns := [⟨rk, 0, AI, cI, rb⟩]) (CPI.out.later ((Keeps.refl None _).alloc _)).o (Rws.one _ (by
        show Blk _ _ [.int .i64 rk, .int .i64 0, .slice _ _ _] _
        rw [MI.out.b.len]
        exact Blk.new _ [.int .i64 rk, .int .i64 0, .slice AI nI cI] 58)) (by simp; omega) (Nat.le_trans CPI.out.k.size (by simp)) (by rfl) (by rfl) (by rfl) (by rfl) (by rfl) ?_
        intro vJ wJ oJ kJ dJ
        have CPJ := Lib.hid ((CPI.out.later ((Keeps.refl None wI).alloc (.cells #[.int .i64 rk, .int .i64 0, .slice AI nI cI] 58))).push (r := ⟨rk, 0, AI, cI, rb⟩) (by show Bs _ AI rb.length cI _; rw [MI.out.b.len]; exact MI.out.b.keeps ((Keeps.refl None wI).alloc _) (fun _ _ _ _ _ h => h)) (fun b hb => by
        obtain ⟨off, h0, e⟩ := hb
        have h1 := (MI.out.p b off (by rw [← MI.out.b.len]; exact h0) e).1
        exact ⟨⟨Nat.le_trans szH h1.1, fun e2 => by have h3 := HLH.out b e2; have h4 := h1.1; omega⟩, Nat.lt_of_lt_of_le h1.2 (by simp)⟩) oJ kJ dJ)
        have XJ : Hid (Keeps None wG wJ) := (Keeps.refl None wG).drew.trans CPJ.out.k (fun _ h => h) (fun _ _ h => h)
        have MJ : Hid ((rsH ++ [(⟨rk, 0, AI, cI, rb⟩ : RV)]).map RV.r = recsS sa ++ [⟨rk, 0, rb⟩]) := by (show _ = _; rw [List.map_append, HMH.out]; rfl)
        clear oJ kJ dJ CPI MI HMH XI XH HLH
        obtain ⟨AJ, cJ, rfl, rJ, -⟩ := CPJ.out.o.shape
        have qJ := rJ.le
        have qK := rJ.max
        have RJ := Lib.hid rJ
        obtain ⟨rsJ, hrsJ⟩ : ∃ x, rsH ++ [(⟨rk, 0, AI, cI, rb⟩ : RV)] = x := ⟨_, rfl⟩
        rw [hrsJ] at CPJ MJ RJ qJ ⊢
        obtain ⟨nJ, hnJ⟩ : ∃ x, rsJ.length = x := ⟨_, rfl⟩
        rw [hnJ] at CPJ RJ qJ ⊢
        clear rJ hrsJ hnJ
        go_wp2
        refine MixK.on (InS.mk ((mH.out _).2 (⟨(LDS.out _ XJ.out).1, LA.out _ XJ.out⟩))) ?_
        refine wpMix_seg 1 (by kernel_rfl) (by decide) ?_
        simp only [List.take_succ_cons, List.take_zero, List.drop_succ_cons, List.drop_zero]
        repeat (first | go_big_quiet_step (fail) | (go_big_quiet_want; first | refine quiet_load mk0 rfl rfl rfl (by simp only [Act.put, List.setIfInBounds_toArray, List.set_cons_succ, List.set_cons_zero]; rfl) ?_; go_big_quiet_on | refine quiet_load mk1 rfl rfl rfl (by simp only [Act.put, List.setIfInBounds_toArray, List.set_cons_succ, List.set_cons_zero]; rfl) ?_; go_big_quiet_on))
        refine wpQuiet_nil ?_
        refine wpMix_nil ?_
        clear mk0 mk1 mn mH
        have FX := Lib.hid (fun w (k : Keeps None wJ w) => lgfold_any AJ nJ cJ rsJ _ w (RJ.out.later k) (CPJ.out.bd.later k))
        rw [MJ.out] at FX
        have S1 := Lib.hid (fun w (k : Keeps None wG w) => rgsame_all sa sa FO.out FO.out A7 AB n7 c7 nB cB w (SG.out.later k).m.b (TG.out.later k).m.b)
        rw [sameB_refl] at S1
        have S2 := Lib.hid (fun w (k : Keeps None wG w) => rgsame_all sb sa NBO.out FO.out AF A7 nF cF n7 c7 w (UG.out.later k).m.b (SG.out.later k).m.b)
        have KJR := Lib.hid (Keeps.refl None wJ)
        clear CPJ RJ MJ KR LA RXB HA1
        obtain ⟨b2, hb2⟩ : ∃ b, sameB sb sa = b := ⟨_, rfl⟩
        rw [hb2] at S2
        cases b2 with
        | true =>
          clear HST FX hb2
          go_wp2
          obtain ⟨mmS, mmh⟩ : ∃ S : World → Prop, ∀ w', S w' ↔ (((Instr.loadAt 39 (.pointer (some ⟨pa, 0, none⟩))).run Try.prog w' = .ok (.agg (sa.cs A7 n7 c7).toArray) w') ∧ ((Instr.loadAt 39 (.pointer (some ⟨pb, 0, none⟩))).run Try.prog w' = .ok (.agg (sa.cs AB nB cB).toArray) w') ∧ ((Instr.loadAt 39 (.pointer (some ⟨pc, 0, none⟩))).run Try.prog w' = .ok (.agg (sb.cs AF nF cF).toArray) w')) := ⟨_, fun _ => Iff.rfl⟩
          have mmk0 : ∀ x : Memb mmS, (Instr.loadAt 39 (.pointer (some ⟨pa, 0, none⟩))).run Try.prog x.at_ = .ok (.agg (sa.cs A7 n7 c7).toArray) x.at_ := fun x => ((mmh _).1 x.is).1
          have mmk1 : ∀ x : Memb mmS, (Instr.loadAt 39 (.pointer (some ⟨pb, 0, none⟩))).run Try.prog x.at_ = .ok (.agg (sa.cs AB nB cB).toArray) x.at_ := fun x => ((mmh _).1 x.is).2.1
          have mmk2 : ∀ x : Memb mmS, (Instr.loadAt 39 (.pointer (some ⟨pc, 0, none⟩))).run Try.prog x.at_ = .ok (.agg (sb.cs AF nF cF).toArray) x.at_ := fun x => ((mmh _).1 x.is).2.2
          have mmn : Nonempty (Memb mmS) := ⟨⟨(wJ).drew, (mmh _).2 ⟨(LDS.out _ XJ.out.drew).1, (LDS.out _ XJ.out.drew).2.1, (LDS.out _ XJ.out.drew).2.2⟩⟩⟩
          have mmH := Lib.hid mmh
          clear mmh
          refine wp_region_mix [2, 6, 10, 11] (InS mmS) (by kernel_rfl) (by kernel_rfl) (InS.mk ((mmH.out _).2 ⟨(LDS.out _ XJ.out.drew).1, (LDS.out _ XJ.out.drew).2.1, (LDS.out _ XJ.out.drew).2.2⟩)) ?_
          refine wpMix_seg 2 (by kernel_rfl) (by decide) ?_
          simp only [List.take_succ_cons, List.take_zero, List.drop_succ_cons, List.drop_zero]
          repeat (first | go_big_quiet_step (fail) | (go_big_quiet_want; first | refine quiet_load mmk0 rfl rfl rfl (by simp only [Act.put, List.setIfInBounds_toArray, List.set_cons_succ, List.set_cons_zero]; rfl) ?_; go_big_quiet_on | refine quiet_load mmk1 rfl rfl rfl (by simp only [Act.put, List.setIfInBounds_toArray, List.set_cons_succ, List.set_cons_zero]; rfl) ?_; go_big_quiet_on | refine quiet_load mmk2 rfl rfl rfl (by simp only [Act.put, List.setIfInBounds_toArray, List.set_cons_succ, List.set_cons_zero]; rfl) ?_; go_big_quiet_on))
          refine wpQuiet_nil ?_
          refine wpMix_eff (by kernel_rfl) ?_
          go_wp2_with fail
          refine (S1.out _ (XJ.out.trans KJR.out.drew (T := None) (fun _ h => h) (fun _ _ h => h))).mono ?_
          rintro e wK ⟨rfl, kK⟩
          have XK := Lib.hid (KJR.out.drew.trans kK (T := None) (fun _ h => h) (fun _ _ h => h))
          clear kK
          go_wp2
          refine MixK.on (InS.mk ((mmH.out _).2 (LDS.out _ (XJ.out.trans XK.out (T := None) (fun _ h => h) (fun _ _ h => h))))) ?_
          refine wpMix_seg 3 (by kernel_rfl) (by decide) ?_
          simp only [List.take_succ_cons, List.take_zero, List.drop_succ_cons, List.drop_zero]
          repeat (first | go_big_quiet_step (fail) | (go_big_quiet_want; first | refine quiet_load mmk0 rfl rfl rfl (by simp only [Act.put, List.setIfInBounds_toArray, List.set_cons_succ, List.set_cons_zero]; rfl) ?_; go_big_quiet_on | refine quiet_load mmk1 rfl rfl rfl (by simp only [Act.put, List.setIfInBounds_toArray, List.set_cons_succ, List.set_cons_zero]; rfl) ?_; go_big_quiet_on | refine quiet_load mmk2 rfl rfl rfl (by simp only [Act.put, List.setIfInBounds_toArray, List.set_cons_succ, List.set_cons_zero]; rfl) ?_; go_big_quiet_on))
          refine wpQuiet_nil ?_
          refine wpMix_eff (by kernel_rfl) ?_
          go_wp2_with fail
          refine (S2.out _ (XJ.out.trans XK.out (T := None) (fun _ h => h) (fun _ _ h => h))).mono ?_
          rintro e wM ⟨rfl, kM⟩
          have XM := Lib.hid (XK.out.trans kM (T := None) (fun _ h => h) (fun _ _ h => h))
          clear kM
          go_wp2
          refine MixK.on (InS.mk ((mmH.out _).2 (LDS.out _ (XJ.out.trans XM.out (T := None) (fun _ h => h) (fun _ _ h => h))))) ?_
          refine wpMix_seg 3 (by kernel_rfl) (by decide) ?_
          simp only [List.take_succ_cons, List.take_zero, List.drop_succ_cons, List.drop_zero]
          repeat (first | go_big_quiet_step (fail) | (go_big_quiet_want; first | refine quiet_load mmk0 rfl rfl rfl (by simp only [Act.put, List.setIfInBounds_toArray, List.set_cons_succ, List.set_cons_zero]; rfl) ?_; go_big_quiet_on | refine quiet_load mmk1 rfl rfl rfl (by simp only [Act.put, List.setIfInBounds_toArray, List.set_cons_succ, List.set_cons_zero]; rfl) ?_; go_big_quiet_on | refine quiet_load mmk2 rfl rfl rfl (by simp only [Act.put, List.setIfInBounds_toArray, List.set_cons_succ, List.set_cons_zero]; rfl) ?_; go_big_quiet_on))
          refine wpQuiet_nil ?_
          refine wpMix_off ?_ (by kernel_rfl)
          repeat (go_big_quiet_step (fail))
          refine wpQuiet_nil ?_
          refine wpMix_off ?_ (by kernel_rfl)
          repeat (go_big_quiet_step (fail))
          refine wpQuiet_nil ?_
          refine wpMix_seg 3 (by kernel_rfl) (by decide) ?_
          simp only [List.take_succ_cons, List.take_zero, List.drop_succ_cons, List.drop_zero]
          repeat (first | go_big_quiet_step (fail) | (go_big_quiet_want; first | refine quiet_load mmk0 rfl rfl rfl (by simp only [Act.put, List.setIfInBounds_toArray, List.set_cons_succ, List.set_cons_zero]; rfl) ?_; go_big_quiet_on | refine quiet_load mmk1 rfl rfl rfl (by simp only [Act.put, List.setIfInBounds_toArray, List.set_cons_succ, List.set_cons_zero]; rfl) ?_; go_big_quiet_on | refine quiet_load mmk2 rfl rfl rfl (by simp only [Act.put, List.setIfInBounds_toArray, List.set_cons_succ, List.set_cons_zero]; rfl) ?_; go_big_quiet_on))
          refine wpQuiet_nil ?_
          refine wpMix_nil ?_
          clear mmk0 mmk1 mmk2 mmn mmH
          have KF := Lib.hid (KGW.out.trans (XJ.out.trans XM.out (T := None) (fun _ h => h) (fun _ _ h => h)) (T := None) (fun _ h => h) (fun _ _ h => h))
          go_wp2
          go_ret
          exact ⟨rfl, KF.out.below (fun _ _ h => h)⟩
        | false =>
          have HSB : Hid (sb = foldS (recsS sa ++ [⟨rk, 0, rb⟩])) := by
            rcases HST.out with h | h
            · rw [h, sameB_refl] at hb2; cases hb2
            · exact h
          rw [← HSB.out] at FX
          clear HST hb2 HSB
          go_wp2
          obtain ⟨mmS, mmh⟩ : ∃ S : World → Prop, ∀ w', S w' ↔ (((Instr.loadAt 39 (.pointer (some ⟨pa, 0, none⟩))).run Try.prog w' = .ok (.agg (sa.cs A7 n7 c7).toArray) w') ∧ ((Instr.loadAt 39 (.pointer (some ⟨pb, 0, none⟩))).run Try.prog w' = .ok (.agg (sa.cs AB nB cB).toArray) w') ∧ ((Instr.loadAt 39 (.pointer (some ⟨pc, 0, none⟩))).run Try.prog w' = .ok (.agg (sb.cs AF nF cF).toArray) w')) := ⟨_, fun _ => Iff.rfl⟩
          have mmk0 : ∀ x : Memb mmS, (Instr.loadAt 39 (.pointer (some ⟨pa, 0, none⟩))).run Try.prog x.at_ = .ok (.agg (sa.cs A7 n7 c7).toArray) x.at_ := fun x => ((mmh _).1 x.is).1
          have mmk1 : ∀ x : Memb mmS, (Instr.loadAt 39 (.pointer (some ⟨pb, 0, none⟩))).run Try.prog x.at_ = .ok (.agg (sa.cs AB nB cB).toArray) x.at_ := fun x => ((mmh _).1 x.is).2.1
          have mmk2 : ∀ x : Memb mmS, (Instr.loadAt 39 (.pointer (some ⟨pc, 0, none⟩))).run Try.prog x.at_ = .ok (.agg (sb.cs AF nF cF).toArray) x.at_ := fun x => ((mmh _).1 x.is).2.2
          have mmn : Nonempty (Memb mmS) := ⟨⟨(wJ).drew, (mmh _).2 ⟨(LDS.out _ XJ.out.drew).1, (LDS.out _ XJ.out.drew).2.1, (LDS.out _ XJ.out.drew).2.2⟩⟩⟩
          have mmH := Lib.hid mmh
          clear mmh
          refine wp_region_mix [2, 6, 10, 11] (InS mmS) (by kernel_rfl) (by kernel_rfl) (InS.mk ((mmH.out _).2 ⟨(LDS.out _ XJ.out.drew).1, (LDS.out _ XJ.out.drew).2.1, (LDS.out _ XJ.out.drew).2.2⟩)) ?_
          refine wpMix_seg 2 (by kernel_rfl) (by decide) ?_
          simp only [List.take_succ_cons, List.take_zero, List.drop_succ_cons, List.drop_zero]
          repeat (first | go_big_quiet_step (fail) | (go_big_quiet_want; first | refine quiet_load mmk0 rfl rfl rfl (by simp only [Act.put, List.setIfInBounds_toArray, List.set_cons_succ, List.set_cons_zero]; rfl) ?_; go_big_quiet_on | refine quiet_load mmk1 rfl rfl rfl (by simp only [Act.put, List.setIfInBounds_toArray, List.set_cons_succ, List.set_cons_zero]; rfl) ?_; go_big_quiet_on | refine quiet_load mmk2 rfl rfl rfl (by simp only [Act.put, List.setIfInBounds_toArray, List.set_cons_succ, List.set_cons_zero]; rfl) ?_; go_big_quiet_on))
          refine wpQuiet_nil ?_
          refine wpMix_eff (by kernel_rfl) ?_
          go_wp2_with fail
          refine (S1.out _ (XJ.out.trans KJR.out.drew (T := None) (fun _ h => h) (fun _ _ h => h))).mono ?_
          rintro e wK ⟨rfl, kK⟩
          have XK := Lib.hid (KJR.out.drew.trans kK (T := None) (fun _ h => h) (fun _ _ h => h))
          clear kK
          go_wp2
          refine MixK.on (InS.mk ((mmH.out _).2 (LDS.out _ (XJ.out.trans XK.out (T := None) (fun _ h => h) (fun _ _ h => h))))) ?_
          refine wpMix_seg 3 (by kernel_rfl) (by decide) ?_
          simp only [List.take_succ_cons, List.take_zero, List.drop_succ_cons, List.drop_zero]
          repeat (first | go_big_quiet_step (fail) | (go_big_quiet_want; first | refine quiet_load mmk0 rfl rfl rfl (by simp only [Act.put, List.setIfInBounds_toArray, List.set_cons_succ, List.set_cons_zero]; rfl) ?_; go_big_quiet_on | refine quiet_load mmk1 rfl rfl rfl (by simp only [Act.put, List.setIfInBounds_toArray, List.set_cons_succ, List.set_cons_zero]; rfl) ?_; go_big_quiet_on | refine quiet_load mmk2 rfl rfl rfl (by simp only [Act.put, List.setIfInBounds_toArray, List.set_cons_succ, List.set_cons_zero]; rfl) ?_; go_big_quiet_on))
          refine wpQuiet_nil ?_
          refine wpMix_eff (by kernel_rfl) ?_
          go_wp2_with fail
          refine (S2.out _ (XJ.out.trans XK.out (T := None) (fun _ h => h) (fun _ _ h => h))).mono ?_
          rintro e wM ⟨rfl, kM⟩
          have XM := Lib.hid (XK.out.trans kM (T := None) (fun _ h => h) (fun _ _ h => h))
          clear kM
          go_wp2
          refine MixK.on (InS.mk ((mmH.out _).2 (LDS.out _ (XJ.out.trans XM.out (T := None) (fun _ h => h) (fun _ _ h => h))))) ?_
          refine wpMix_seg 3 (by kernel_rfl) (by decide) ?_
          simp only [List.take_succ_cons, List.take_zero, List.drop_succ_cons, List.drop_zero]
          repeat (first | go_big_quiet_step (fail) | (go_big_quiet_want; first | refine quiet_load mmk0 rfl rfl rfl (by simp only [Act.put, List.setIfInBounds_toArray, List.set_cons_succ, List.set_cons_zero]; rfl) ?_; go_big_quiet_on | refine quiet_load mmk1 rfl rfl rfl (by simp only [Act.put, List.setIfInBounds_toArray, List.set_cons_succ, List.set_cons_zero]; rfl) ?_; go_big_quiet_on | refine quiet_load mmk2 rfl rfl rfl (by simp only [Act.put, List.setIfInBounds_toArray, List.set_cons_succ, List.set_cons_zero]; rfl) ?_; go_big_quiet_on))
          refine wpQuiet_nil ?_
          refine wpMix_eff (by kernel_rfl) ?_
          go_wp2_with fail
          refine (FX.out _ XM.out).mono ?_
          rintro e wN ⟨AN, nN, cN, rfl, mN, kN⟩
          have MN := Lib.hid mN
          have XN := Lib.hid (XM.out.trans kN (T := None) (fun _ h => h) (fun _ _ h => h))
          clear mN kN FX
          unfold St.v
          go_wp2
          refine MixK.on (InS.mk ((mmH.out _).2 (LDS.out _ (XJ.out.trans XN.out (T := None) (fun _ h => h) (fun _ _ h => h))))) ?_
          refine wpMix_eff (by kernel_rfl) ?_
          go_wp2_with fail
          refine (rgsame_refl sb sb rfl NBO.out NBO.out AF AN nF cF nN cN _ (UG.out.later (XJ.out.trans XN.out (T := None) (fun _ h => h) (fun _ _ h => h))).m.b MN.out.b).mono ?_
          rintro e wO ⟨rfl, kO⟩
          have XO := Lib.hid (XN.out.trans kO (T := None) (fun _ h => h) (fun _ _ h => h))
          clear kO
          go_wp2
          refine MixK.on (InS.mk ((mmH.out _).2 (LDS.out _ (XJ.out.trans XO.out (T := None) (fun _ h => h) (fun _ _ h => h))))) ?_
          refine wpMix_seg 3 (by kernel_rfl) (by decide) ?_
          simp only [List.take_succ_cons, List.take_zero, List.drop_succ_cons, List.drop_zero]
          repeat (first | go_big_quiet_step (fail) | (go_big_quiet_want; first | refine quiet_load mmk0 rfl rfl rfl (by simp only [Act.put, List.setIfInBounds_toArray, List.set_cons_succ, List.set_cons_zero]; rfl) ?_; go_big_quiet_on | refine quiet_load mmk1 rfl rfl rfl (by simp only [Act.put, List.setIfInBounds_toArray, List.set_cons_succ, List.set_cons_zero]; rfl) ?_; go_big_quiet_on | refine quiet_load mmk2 rfl rfl rfl (by simp only [Act.put, List.setIfInBounds_toArray, List.set_cons_succ, List.set_cons_zero]; rfl) ?_; go_big_quiet_on))
          refine wpQuiet_nil ?_
          refine wpMix_nil ?_
          clear mmk0 mmk1 mmk2 mmn mmH
          have KF := Lib.hid (KGW.out.trans (XJ.out.trans XO.out (T := None) (fun _ h => h) (fun _ _ h => h)) (T := None) (fun _ h => h) (fun _ _ h => h))
          go_wp2
          go_ret
          exact ⟨rfl, KF.out.below (fun _ _ h => h)⟩
theorem cuts23_law (A0 : Option Addr) (n0 c0 : Nat) (ls : List AV) (a : AV) (after : Int) (A2 : Option Addr) (m2 c2 : Nat) (ps : List Int) (W : World) (h0 : ActsV W A0 n0 c0 ls) (ha : a.ok W) (h2 : Bs W A2 m2 c2 ps) (hx : (Lit.int .i64 after).wf = true) :
    Calls Try.prog 6 #[.slice A0 n0 c0, .agg a.cs.toArray, .int .i64 after, .slice A2 m2 c2] W fun e W' => e = .returned (.bool true) ∧ Below W.heap.size W W' :=
  cuts23_any A0 n0 c0 ls a after A2 m2 c2 ps W h0 ha h2 (wf_i64_bd hx).2
set_option maxRecDepth 100000 in
theorem LedgerCuts_lifted (os : Os) (started : os.Started) (H : Type) (enc : TypeId × Value → H) :
    ReturnsInHanded {} Try.checked os 6 .any (Rows.ledgerCutsSpec.pre6 enc Try.prog Try.f6 Rows.ledgerCutsRow.domain false) (Rows.ledgerCutsSpec.post enc Try.prog Try.f6 false true false false) := by
  refine returnsInHanded_of_change (C := Try.checked) Try.own started (by kernel_rfl) Try.func6
    (ChangeSpec.witness6 (enc := enc) (C := Try.checked) false ⟨#[], #[.slice none 0 0, .agg (⟨0, 0, none, 0, 0, [], com0, none, 0, 0, chk0⟩ : AV).cs.toArray, .int .i64 0, .slice none 0 0], []⟩ 8 (by kernel_rfl) (by kernel_rfl) (by kernel_rfl) (by kernel_rfl)) ?_
  intro W base args ds gs before hval0 hW hcnd _
  have hval : ∀ (j : Nat) t v, Try.f6.params[j]? = some t → args[j]? = some v → Value.okWide Try.prog W .any base t v := hval0
  have hW' := hW
  obtain ⟨p, q, hA0, hV, rfl, hfz, hnd⟩ := hW
  have hA : DataW.TrodAll enc Try.prog W 0 (fun _ => true) true Try.f6.params.toList args.toList ds p := hA0
  rw [Try.params6] at hA hval
  obtain ⟨v0, vs0, d0, ds0, p0, q0, hargs, rfl, rfl, h0, r0⟩ := trodAll_cons hA
  obtain ⟨v1, vs1, d1, ds1, p1, q1, rfl, rfl, rfl, h1, r1⟩ := trodAll_cons r0
  obtain ⟨v2, vs2, d2, ds2, p2, q2, rfl, rfl, rfl, h2, r2⟩ := trodAll_cons r1
  obtain ⟨v3, vs3, d3, ds3, p3, q3, rfl, rfl, rfl, h3, r3⟩ := trodAll_cons r2
  obtain ⟨rfl, rfl, rfl⟩ := trodAll_nil r3
  obtain rfl : args = #[v0, v1, v2, v3] := by cases args; simp_all
  obtain ⟨rfl, rfl⟩ := trodVars_none hV
  have k0 := h0
  have lt0 : ∀ x ∈ p0, x.block < W.heap.size := by obtain ⟨m, hm⟩ := k0; exact DataW.trod_lt m _ _ _ hm
  obtain ⟨a0, len0, cap0, rfl⟩ := okWide_slice Try.underlying47 (hval 0 47 v0 rfl rfl)
  obtain ⟨z0, s0⟩ := open_acts h0
  have k1 := h1
  have lt1 : ∀ x ∈ p1, x.block < W.heap.size := by obtain ⟨m, hm⟩ := k1; exact DataW.trod_lt m _ _ _ hm
  obtain ⟨c1, rfl, s1⟩ := open_act (hval 1 49 v1 rfl rfl) h1
  have k2 := h2
  have lt2 : ∀ x ∈ p2, x.block < W.heap.size := by obtain ⟨m, hm⟩ := k2; exact DataW.trod_lt m _ _ _ hm
  obtain ⟨a2, rfl, rfl, rfl, w2⟩ := open_int Try.underlying3 (hval 2 3 v2 rfl rfl) h2
  have k3 := h3
  have lt3 : ∀ x ∈ p3, x.block < W.heap.size := by obtain ⟨m, hm⟩ := k3; exact DataW.trod_lt m _ _ _ hm
  obtain ⟨a3, len3, cap3, rfl⟩ := okWide_slice Try.underlying27 (hval 3 27 v3 rfl rfl)
  obtain ⟨z3, s3⟩ := open_bs h3
  clear hA0 hval0
  refine (cuts23_law a0 len0 cap0 z0 c1 a2 a3 len3 cap3 z3 W s0 s1 s3 w2).mono fun e W' ⟨he, bel⟩ => ?_
  subst he
  exact ⟨_, rfl, _, _, _, [], _, [], hW', trodAll_mk1 (shut_bool Try.underlying4 _), (trodAll_cons_mk (Below.trod Try.laidOut (by kernel_rfl) (of_decide_eq_true (by kernel_rfl)) k0 bel lt0) (trodAll_cons_mk (Below.trod Try.laidOut (by kernel_rfl) (of_decide_eq_true (by kernel_rfl)) k1 bel lt1) (trodAll_cons_mk (Below.trod Try.laidOut (by kernel_rfl) (of_decide_eq_true (by kernel_rfl)) k2 bel lt2) (trodAll_cons_mk (Below.trod Try.laidOut (by kernel_rfl) (of_decide_eq_true (by kernel_rfl)) k3 bel lt3) trodAll_mk0)))), rfl, bel.frame _, fun h => by cases h⟩

set_option maxRecDepth 100000 in
theorem LedgerCuts_closed : joinedFacts Try.checked.prog 6 Try.f6 Rows.ledgerCutsSpec Rows.ledgerCutsRow = true := by
  unfold joinedFacts
  rw [closed_laid, closed_maps, closed_heard, closed_plain, closed_mayEnter, closed_lifts, closed_make]
  kernel_rfl

theorem LedgerCuts_holds : Rows.LedgerCutsSaid :=
  OpenClaim.holds_of_wide 6 Try.f6 rfl rfl rfl rfl rfl rfl rfl ⟨rfl, rfl, rfl, rfl, rfl⟩ rfl rfl rfl rfl rfl (by kernel_rfl) Try.func6 LedgerCuts_closed
    (of_decide_eq_true (by kernel_rfl)) (by unfold Func.isWrapper; first | (rw [if_pos (by decide +kernel)]; kernel_rfl) | (rw [if_neg (by decide +kernel)]; exact ⟨rfl, rfl⟩))
    (fun os started H enc _ => LedgerCuts_lifted os started H enc)
#print axioms LedgerCuts_holds
end Go.Proofs.Ytfldgaiiniknpaa
