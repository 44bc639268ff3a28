/-
  For every region of five sectors and every row of calls, the law RegionOnly returns true: nothing that is done to a region turns a sector that is not its own. No condition.
-/
import Derived.Test.YtngofnlhbhfigaaRgLaw
import Derived.Test.YtngofnlhbhfigaaActs
import Derived.Test.YtngofnlhbhfigaaFrame
import Derived.Test.YtngofnlhbhfigaaInit
namespace Go.Proofs.Ytngofnlhbhfigaa
open Go.RowKit Go.ChangeShapes Go.WideShapes Go.ChangeAt

/-- What stays as it was while a region is worked on and no step is broken. -/
structure OnlyI (f c j : Nat) (s : FS) : Prop where
  dark : s.dark = false
  left : s.left < 0
  bl : s.b.length = 5120
  el : s.er.length = 5
  st : 0 ≤ s.steps ∧ s.steps ≤ 2000 * j
  er : ∀ i, 0 ≤ s.er.getD i 0 ∧ s.er.getD i 0 ≤ j
  out : ∀ i, i < 1024 * f ∨ 1024 * (f + c) ≤ i → s.b.getD i 0 = 0
theorem OnlyI.more {f c j : Nat} {s : FS} (h : OnlyI f c j s) : OnlyI f c (j + 1) s :=
  ⟨h.dark, h.left, h.bl, h.el, by have := h.st; omega, fun i => by have := h.er i; omega, h.out⟩
theorem OnlyI.prog {f c j : Nat} {s : FS} (h : OnlyI f c j s) (hf : f + c ≤ 5) (a : Int) (zs : List Int) (hz : zs.length ≤ 1100) : OnlyI f c (j + 1) (s.gprog f c a zs).1 := by
  have h0 := h.more
  unfold FS.gprog
  rw [if_neg (by rw [h.dark]; decide)]
  split
  · rename_i hw
    obtain ⟨i, k, rfl, hk, hik⟩ := within_nat hw
    have e : (1024 * (f : Int) + i) = ((1024 * f + i : Nat) : Int) := by omega
    rw [e]
    have hh := h.st
    unfold FS.progF
    rw [if_neg (by rw [h.dark]; decide)]
    split
    · exact h0
    · split
      · exact h0
      · split
        · exact h0
        · rename_i h1 h2 h3
          rw [progW_free _ _ _ _ h.left (by omega) (by rw [Int.toNat_natCast, h.bl]; omega), Int.toNat_natCast]
          refine ⟨h.dark, h.left, by show (splice _ _ _).length = 5120; rw [splice_len _ _ _ (by rw [h.bl]; omega)]; exact h.bl, h.el, ?_, fun i => by have := h.er i; show 0 ≤ s.er.getD i 0 ∧ s.er.getD i 0 ≤ ((j + 1 : Nat) : Int); omega, ?_⟩
          · show 0 ≤ s.steps + ((zs.length / 8 : Nat) : Int) ∧ s.steps + ((zs.length / 8 : Nat) : Int) ≤ 2000 * ((j + 1 : Nat) : Int); omega
          · intro x hx
            show (splice _ _ _).getD x 0 = 0
            rw [splice_getD _ _ _ (by rw [h.bl]; omega), if_neg (by omega)]
            exact h.out x hx
  · exact h0
theorem getD_set_bd {l : List Int} {k : Nat} {v lo hi : Int} (h : ∀ i, lo ≤ l.getD i 0 ∧ l.getD i 0 ≤ hi) (hv : lo ≤ v ∧ v ≤ hi) (i : Nat) : lo ≤ (l.set k v).getD i 0 ∧ (l.set k v).getD i 0 ≤ hi := by
  by_cases e : i = k
  · subst e
    by_cases hl : i < l.length
    · rw [getD_set_self _ _ _ hl]; exact hv
    · have : l.set i v = l := List.set_eq_of_length_le (by omega)
      rw [this]; exact h i
  · have : (l.set k v).getD i 0 = l.getD i 0 := by simp [List.getD, List.getElem?_set, show ¬ k = i from fun x => e x.symm]
    rw [this]; exact h i
theorem OnlyI.erase {f c j : Nat} {s : FS} (h : OnlyI f c j s) (hf : f + c ≤ 5) (k : Int) : OnlyI f c (j + 1) (s.gerase f c k).1 := by
  have h0 := h.more
  unfold FS.gerase
  rw [if_neg (by rw [h.dark]; decide)]
  split
  · exact h0
  · rename_i hk
    obtain ⟨i, rfl⟩ : ∃ i : Nat, k = i := ⟨k.toNat, by omega⟩
    have e : ((f : Int) + i) = ((f + i : Nat) : Int) := by omega
    rw [e]
    have hh := h.st
    unfold FS.eraseF
    rw [if_neg (by rw [h.dark]; decide)]
    split
    · exact h0
    · have hl := h.left
      rw [if_neg (by omega), Int.toNat_natCast]
      have hs : (s.erased (f + i)).stepped = { s.erased (f + i) with steps := s.steps + 1 } := stepped_free hl
      rw [hs]
      refine ⟨h.dark, h.left, by show (splice _ _ _).length = 5120; rw [splice_len _ _ _ (by rw [h.bl, List.length_replicate]; omega)]; exact h.bl, by show (s.er.set _ _).length = 5; rw [List.length_set]; exact h.el, ?_, ?_, ?_⟩
      · show 0 ≤ s.steps + 1 ∧ s.steps + 1 ≤ 2000 * ((j + 1 : Nat) : Int); omega
      · intro x
        exact getD_set_bd (fun i => by have := h.er i; omega) (by have := h.er (f + i); omega) x
      · intro x hx
        show (splice _ _ _).getD x 0 = 0
        rw [splice_getD _ _ _ (by rw [h.bl, List.length_replicate]; omega), if_neg (by rw [List.length_replicate]; omega)]
        exact h.out x hx
theorem rnil (wr : World) {A : Option Addr} {m c : Nat} {zs : List Int} (h : Bs wr A m c zs) (hm : m ≤ 1100) :
    ∃ A' c' w', (Builtin.append_ #[22, 22] 22 #[.slice none 0 0, .slice A m c]).run Try.prog wr = .ok (.slice A' m c') w' ∧ Own w' wr.heap.size (.slice A' m c') zs ∧ Keeps None wr w' := by
  obtain ⟨v, w', hr, ho, hk, -⟩ := run_append_bs (Own.nil wr wr.heap.size) h (by simp; omega) (Nat.le_refl _)
  rw [List.nil_append] at ho
  obtain ⟨A', c', rfl, -⟩ := slice_of_own ho
  rw [h.len] at hr ho
  exact ⟨A', c', w', hr, ho, (Keeps.refl None wr).trans hk (fun _ h => h) (fun _ _ h => by simp [Value.ownBlock] at h)⟩
theorem only_start (f c : Nat) : ∃ s : FS, ((newF 5).spoilF 0 (List.replicate 5120 0)).1 = s ∧ OnlyI f c 0 s := by
  have hn : newF 5 = { b := List.replicate 5120 255, er := [0, 0, 0, 0, 0], steps := 0, left := -1, pick := [], dark := false } := rfl
  have hrl : (List.replicate 5120 (255 : Int)).length = 5120 := List.length_replicate
  have hzl : (List.replicate 5120 (0 : Int)).length = 5120 := List.length_replicate
  have hz0 : ∀ i, (List.replicate 5120 (0 : Int)).getD i 0 = 0 := fun i => by
    by_cases h : i < 5120
    · rw [getD_get 0 (by rw [hzl]; exact h), List.getElem_replicate]
    · rw [List.getD, List.getElem?_eq_none (by rw [hzl]; omega)]; rfl
  rw [hn]
  generalize List.replicate 5120 (255 : Int) = bl at *
  generalize List.replicate 5120 (0 : Int) = zl at *
  refine ⟨_, rfl, ?_⟩
  unfold FS.spoilF
  have hw : withinB 0 zl.length bl.length = true := decide_eq_true ⟨by decide, by omega, by omega, by omega⟩
  dsimp only
  rw [if_pos hw]
  have hs : splice bl 0 zl = zl := by
    simp only [splice, List.take_zero, List.nil_append]
    rw [List.drop_of_length_le (by omega), List.append_nil]
  show OnlyI f c 0 { b := splice bl 0 zl, er := [0, 0, 0, 0, 0], steps := 0, left := -1, pick := [], dark := false }
  rw [hs]
  refine ⟨rfl, (show (-1 : Int) < 0 by decide), hzl, rfl, ⟨(show (0 : Int) ≤ 0 by decide), (show (0 : Int) ≤ 2000 * ((0 : Nat) : Int) by decide)⟩, fun i => ?_, fun i _ => hz0 i⟩
  show 0 ≤ ([0, 0, 0, 0, 0] : List Int).getD i 0 ∧ ([0, 0, 0, 0, 0] : List Int).getD i 0 ≤ ((0 : Nat) : Int)
  match i with
  | 0 => decide
  | 1 => decide
  | 2 => decide
  | 3 => decide
  | 4 => decide
  | i + 5 => simp

set_option maxRecDepth 100000 in
set_option maxHeartbeats 3200000 in
theorem only3_any (first count : Int) (A : Option Addr) (m cap : Nat) (xs : List Value) (F : Nat → Ac) (W : World) (h : ActsAt W A m cap xs F) :
    Calls Try.prog 8 #[.int .i64 first, .int .i64 count, .slice A m cap] W fun e w' => e = .returned (.bool true) ∧ Below W.heap.size W w' := by
  have FEW := Lib.hid (fun w hk => few3_any A m cap xs F W w h hk)
  have m1 := h.sl.2.1
  have m2 := h.sl.2.2.1
  cases hfw : fewB m F with
  | false =>
    rw [hfw] at FEW
    clear hfw h
    go_enter Try.func8, Try.ntmps8
    go_wp2_with fail
    refine (alive3_any W).mono ?_
    rintro e w1 ⟨rfl, K1⟩
    go_wp2_with fail
    refine (FEW.out _ K1).mono ?_
    rintro e w' ⟨rfl, rfl⟩
    go_wp2
    go_ret
    exact ⟨rfl, K1.below (fun _ _ h => h)⟩
  | true =>
  rw [hfw] at FEW
  obtain ⟨f1a, f1b⟩ := fewB_yes hfw
  have FB := Lib.hid f1b
  clear hfw f1b
  by_cases g1 : first < 0
  · have d1 : decide (first < 0) = true := decide_eq_true g1
    go_enter Try.func8, Try.ntmps8
    go_wp2_with fail
    refine (alive3_any W).mono ?_
    rintro e w1 ⟨rfl, K1⟩
    go_wp2_with fail
    refine (FEW.out _ K1).mono ?_
    rintro e w' ⟨rfl, rfl⟩
    go_wp2
    go_ret
    exact ⟨rfl, K1.below (fun _ _ h => h)⟩
  have d1 : decide (first < 0) = false := decide_eq_false g1
  by_cases g2 : 4 < first
  · have d2 : decide (4 < first) = true := decide_eq_true g2
    go_enter Try.func8, Try.ntmps8
    go_wp2_with fail
    refine (alive3_any W).mono ?_
    rintro e w1 ⟨rfl, K1⟩
    go_wp2_with fail
    refine (FEW.out _ K1).mono ?_
    rintro e w' ⟨rfl, rfl⟩
    go_wp2
    go_ret
    exact ⟨rfl, K1.below (fun _ _ h => h)⟩
  have d2 : decide (4 < first) = false := decide_eq_false g2
  by_cases g3 : count < 1
  · have d3 : decide (count < 1) = true := decide_eq_true g3
    go_enter Try.func8, Try.ntmps8
    go_wp2_with fail
    refine (alive3_any W).mono ?_
    rintro e w1 ⟨rfl, K1⟩
    go_wp2_with fail
    refine (FEW.out _ K1).mono ?_
    rintro e w' ⟨rfl, rfl⟩
    go_wp2
    go_ret
    exact ⟨rfl, K1.below (fun _ _ h => h)⟩
  have d3 : decide (count < 1) = false := decide_eq_false g3
  by_cases g4 : 5 - first < count
  · have d4 : decide (5 - first < count) = true := decide_eq_true g4
    go_enter Try.func8, Try.ntmps8
    go_wp2_with fail
    refine (alive3_any W).mono ?_
    rintro e w1 ⟨rfl, K1⟩
    go_wp2_with fail
    refine (FEW.out _ K1).mono ?_
    rintro e w' ⟨rfl, rfl⟩
    go_wp2
    go_ret
    exact ⟨rfl, K1.below (fun _ _ h => h)⟩
  have d4 : decide (5 - first < count) = false := decide_eq_false g4
  obtain ⟨f1, rfl⟩ : ∃ f : Nat, first = f := ⟨first.toNat, by omega⟩
  obtain ⟨c1, rfl⟩ : ∃ c : Nat, count = c := ⟨count.toNat, by omega⟩
  have hfc : f1 + c1 ≤ 5 := by omega
  have N2 := Lib.hid num3_any
  have SB1 : Hid (someB f1 c1 ((5 : Nat) : Int) = true) := decide_eq_true (by omega)
  have HAC := Lib.hid h
  obtain ⟨s0, p0, i0⟩ := only_start f1 c1
  have P0 := Lib.hid p0
  have I0 := Lib.hid i0
  have IP := Lib.hid (fun j s (hi : OnlyI f1 c1 j s) a zs hz => hi.prog hfc a zs hz)
  have IE := Lib.hid (fun j s (hi : OnlyI f1 c1 j s) k => hi.erase hfc k)
  obtain ⟨N, hN⟩ : ∃ N : Nat, N = 5120 := ⟨_, rfl⟩
  have hmk := fun w => run_make_blk (P := Try.prog) 22 5 (.int .u8 0) 1 Try.underlying22 Try.info5 rfl .i64 .i64 5120 5120 N (by omega) (by omega) (by omega) (by omega) w
  have ZB := Lib.hid (fun w => madeBs w N (by omega))
  rw [← hN] at P0
  have NW := Lib.hid (fun w (hk : Keeps None W w) => lnew hk 5)
  have HN := Lib.hid hN
  generalize newF 5 = f0 at *
  generalize List.replicate N (0 : Int) = z0 at *
  clear h p0 i0 hN
  go_enter Try.func8, Try.ntmps8
  go_wp2_with fail
  refine (alive3_any W).mono ?_
  rintro e w1 ⟨rfl, K1⟩
  go_wp2_with fail
  refine (FEW.out _ K1).mono ?_
  rintro e w' ⟨rfl, rfl⟩
  have HK1 := Lib.hid K1
  clear K1
  go_wp2_with fail
  refine (NW.out _ HK1.out).mono ?_
  rintro e w2 ⟨q, L, rfl, hF⟩
  have HF := Lib.hid hF
  clear hF NW
  go_wp2_with fail
  refine (lspoil (HF.out.alloc _) (ownBs (ZB.out w2)) 0).mono ?_
  rintro e w3 ⟨rfl, L3, h3, -⟩
  rw [P0.out] at h3
  have H3 := Lib.hid h3
  generalize (f0.spoilF 0 z0).2 = e3
  clear h3 HF ZB P0 hmk
  go_wp2_with fail
  refine (lgof H3.out f1 c1).mono ?_
  rw [I0.out.el, ofF_yes SB1.out, Int.zero_add]
  rintro e w4 ⟨rfl, k4⟩
  have H5 := Lib.hid ((H3.out.later k4).alloc (.cells #[.pointer (some ⟨q, 0, none⟩), .int .i64 f1, .int .i64 c1] 27))
  have R5 := Lib.hid (Blk.new w4 [.pointer (some ⟨q, 0, none⟩), .int .i64 f1, .int .i64 c1] 27)
  have NB := Lib.hid (fun (hO : L3.O w4.heap.size) => (absurd ((H3.out.later k4).at_.lt _ hO) (Nat.lt_irrefl _) : False))
  clear k4 H3
  go_wp2_with fail
  refine (N2.out _ _).mono ?_
  rintro e w' ⟨rfl, rfl⟩
  go_wp2
  obtain ⟨rb, hrb⟩ : ∃ x, w4.heap.size = x := ⟨_, rfl⟩
  rw [hrb] at R5 NB ⊢
  clear hrb SB1
  go_loopw [11] (fun iv wr => ∃ (j : Nat) (s : FS) (L : FL), j ≤ m ∧ iv = .int .i64 j ∧ LF W wr w1.heap.size q L s ∧ OnlyI f1 c1 j s ∧ Blk wr rb [.pointer (some ⟨q, 0, none⟩), .int .i64 f1, .int .i64 c1] 27 ∧ ¬ L.O rb) (fun iv _ => m - (intOf iv).toNat)
  case atStart => exact ⟨0, s0, L3, Nat.zero_le _, rfl, H5.out, I0.out, R5.out, NB.out⟩
  case round =>
    obtain ⟨j, s, L, hj, rfl, hF, hI, hR, hN⟩ := hrel
    have HF := Lib.hid hF
    have HI := Lib.hid hI
    have HN := Lib.hid hN
    clear hF hI hN H5 I0 R5 NB
    by_cases hlt : j < m
    · obtain ⟨b, off, rfl, a0, a1, -, a3, hbs⟩ := HAC.out.cells HF.out.keeps hlt
      have hl := FB.out j hlt
      have ipr := IP.out j s HI.out (F j).a (F j).zs (by rw [hbs.len]; exact hl)
      have ier := IE.out j s HI.out (F j).a
      have ist := HI.out.st
      have ise := HI.out.er
      obtain ⟨A9, c9, w9, hr9, o9, k9⟩ := rnil wr hbs hl
      have H9 := Lib.hid (HF.out.later k9)
      have R9 := Lib.hid (k9.blk hR (fun h => h))
      obtain ⟨b', off', e', d0, d1, -, -, -⟩ := HAC.out.cells H9.out.keeps hlt
      cases e'
      have LB := Lib.hid (Lb.new HF.out.at_ o9)
      have LG := Lib.hid (fun w' (hk : Keeps None w9 w') => lgprogram (first := f1) (count := c1) (H9.out.later hk) (by omega) (LB.out.later hk) (F j).a (by omega))
      have LE := Lib.hid (fun w' (hk : Keeps None w9 w') => lgerase (first := f1) (count := c1) (H9.out.later hk) (by omega) (F j).a (by omega) (fun i => by have := ise i; omega))
      have IPR := Lib.hid ipr
      have IER := Lib.hid ier
      generalize (F j).k = fk at *
      generalize (F j).a = fa at *
      generalize (F j).n = fn at *
      generalize (F j).A = fA at *
      generalize (F j).l = fl at *
      generalize (F j).c = fc at *
      generalize (F j).zs = fz at *
      clear hbs ipr ier ist ise k9 o9 hR
      by_cases q2 : fk = 2
      · subst q2
        go_wp2_with (at_builtin; refine wpList_append_run hr9 rfl rfl rfl rfl rfl ?_)
        obtain ⟨mS, mh⟩ : ∃ S : World → Prop, ∀ w', S w' ↔ (w'.cell? ⟨rb, 0, none⟩ = some (.pointer (some ⟨q, 0, none⟩)) ∧ w'.cell? ⟨rb, 1, none⟩ = some (.int .i64 f1) ∧ w'.cell? ⟨rb, 2, none⟩ = some (.int .i64 c1) ∧ w'.cell? ⟨b, off + j * 4 + 1, none⟩ = some (.int .i64 fa)) := ⟨_, fun _ => Iff.rfl⟩
        have mk0 : ∀ x : Memb mS, x.at_.cell? ⟨rb, 0, none⟩ = some (.pointer (some ⟨q, 0, none⟩)) := fun x => ((mh _).1 x.is).1
        have mk1 : ∀ x : Memb mS, x.at_.cell? ⟨rb, 1, none⟩ = some (.int .i64 f1) := fun x => ((mh _).1 x.is).2.1
        have mk2 : ∀ x : Memb mS, x.at_.cell? ⟨rb, 2, none⟩ = some (.int .i64 c1) := fun x => ((mh _).1 x.is).2.2.1
        have mk3 : ∀ x : Memb mS, x.at_.cell? ⟨b, off + j * 4 + 1, none⟩ = some (.int .i64 fa) := fun x => ((mh _).1 x.is).2.2.2
        have mn : Nonempty (Memb mS) := ⟨⟨(w9).drew, (mh _).2 ⟨R9.out.cellD 0 _ rfl, R9.out.cellD 1 _ rfl, R9.out.cellD 2 _ rfl, d1⟩⟩⟩
        have mH := Lib.hid mh
        clear mh
        refine wp_region_mix [7] (InS mS) (by kernel_rfl) (by kernel_rfl) (InS.mk ((mH.out _).2 ⟨R9.out.cellD 0 _ rfl, R9.out.cellD 1 _ rfl, R9.out.cellD 2 _ rfl, d1⟩)) ?_
        refine wpMix_seg 7 (by kernel_rfl) (by decide) ?_
        simp only [List.take_succ_cons, List.take_zero, List.drop_succ_cons, List.drop_zero]
        repeat (go_big_quiet_step (fail))
        refine wpQuiet_nil ?_
        refine wpMix_eff (by kernel_rfl) ?_
        go_wp2_with fail
        refine (LG.out _ (Keeps.refl None w9).drew).mono ?_
        rintro e w10 ⟨rfl, L10, h10, t10⟩
        go_wp2
        refine MixK.last (by kernel_rfl) ?_
        refine wpMix_nil ?_
        clear mk0 mk1 mk2 mk3 mn mH
        go_wp2
        go_roundw
        case rel => exact ⟨j + 1, _, L10, hlt, by go_num, h10, IPR.out, t10.keeps.blk R9.out HN.out, fun hO => (t10.o rb hO).elim HN.out (fun h => by have := R9.out.drew.lt; omega)⟩
        case measure => simp [intOf]; omega
      · by_cases q3 : fk = 3
        · subst q3
          go_wp2_with (at_builtin; refine wpList_append_run hr9 rfl rfl rfl rfl rfl ?_)
          obtain ⟨mS, mh⟩ : ∃ S : World → Prop, ∀ w', S w' ↔ (w'.cell? ⟨rb, 0, none⟩ = some (.pointer (some ⟨q, 0, none⟩)) ∧ w'.cell? ⟨rb, 1, none⟩ = some (.int .i64 f1) ∧ w'.cell? ⟨rb, 2, none⟩ = some (.int .i64 c1) ∧ w'.cell? ⟨b, off + j * 4 + 1, none⟩ = some (.int .i64 fa)) := ⟨_, fun _ => Iff.rfl⟩
          have mk0 : ∀ x : Memb mS, x.at_.cell? ⟨rb, 0, none⟩ = some (.pointer (some ⟨q, 0, none⟩)) := fun x => ((mh _).1 x.is).1
          have mk1 : ∀ x : Memb mS, x.at_.cell? ⟨rb, 1, none⟩ = some (.int .i64 f1) := fun x => ((mh _).1 x.is).2.1
          have mk2 : ∀ x : Memb mS, x.at_.cell? ⟨rb, 2, none⟩ = some (.int .i64 c1) := fun x => ((mh _).1 x.is).2.2.1
          have mk3 : ∀ x : Memb mS, x.at_.cell? ⟨b, off + j * 4 + 1, none⟩ = some (.int .i64 fa) := fun x => ((mh _).1 x.is).2.2.2
          have mn : Nonempty (Memb mS) := ⟨⟨(w9).drew, (mh _).2 ⟨R9.out.cellD 0 _ rfl, R9.out.cellD 1 _ rfl, R9.out.cellD 2 _ rfl, d1⟩⟩⟩
          have mH := Lib.hid mh
          clear mh
          refine wp_region_mix [6] (InS mS) (by kernel_rfl) (by kernel_rfl) (InS.mk ((mH.out _).2 ⟨R9.out.cellD 0 _ rfl, R9.out.cellD 1 _ rfl, R9.out.cellD 2 _ rfl, d1⟩)) ?_
          refine wpMix_seg 6 (by kernel_rfl) (by decide) ?_
          simp only [List.take_succ_cons, List.take_zero, List.drop_succ_cons, List.drop_zero]
          repeat (go_big_quiet_step (fail))
          refine wpQuiet_nil ?_
          refine wpMix_eff (by kernel_rfl) ?_
          go_wp2_with fail
          refine (LE.out _ (Keeps.refl None w9).drew).mono ?_
          rintro e w10 ⟨rfl, L10, h10, t10⟩
          go_wp2
          refine MixK.last (by kernel_rfl) ?_
          refine wpMix_nil ?_
          clear mk0 mk1 mk2 mk3 mn mH
          go_wp2
          go_roundw
          case rel => exact ⟨j + 1, _, L10, hlt, by go_num, h10, IER.out, t10.keeps.blk R9.out HN.out, fun hO => (t10.o rb hO).elim HN.out (fun h => by have := R9.out.drew.lt; omega)⟩
          case measure => simp [intOf]; omega
        · have e2 : decide (fk = 2) = false := decide_eq_false q2
          have e3 : decide (fk = 3) = false := decide_eq_false q3
          go_wp2_with (at_builtin; refine wpList_append_run hr9 rfl rfl rfl rfl rfl ?_)
          go_roundw
          case rel => exact ⟨j + 1, s, L, hlt, by go_num, H9.out, HI.out.more, R9.out, HN.out⟩
          case measure => simp [intOf]; omega
    · obtain rfl : j = m := by omega
      have hpk : s.peekF 0 5120 = s.b := by
        unfold FS.peekF
        rw [HI.out.bl, if_pos (by decide)]
        show (s.b.drop 0).take 5120 = _
        rw [List.drop_zero, List.take_of_length_le (by rw [HI.out.bl]; exact Nat.le_refl _)]
      have hout := HI.out.out
      have hbl := HI.out.bl
      go_wp2_with fail
      refine (lpeek HF.out 0 5120).mono ?_
      rintro e wp ⟨v, rfl, op, kp⟩
      rw [hpk] at op
      obtain ⟨AP, cp, rfl, bp⟩ := slice_of_own op
      rw [hbl] at bp ⊢
      obtain ⟨bb, oo, e', -, hc5⟩ := bp.at_ (by omega)
      cases e'
      have l5 := bp.le
      have m5 := bp.max
      have HZ := Lib.hid (fun i (hi : i < 5120) (ho : i < 1024 * f1 ∨ 1024 * (f1 + c1) ≤ i) => (hc5 i hi).trans (congrArg (fun z => some (Value.int .u8 z)) (hout i ho)))
      have HK := Lib.hid (HF.out.later kp).keeps
      clear hc5 bp op kp hpk hout hbl HF HI
      obtain ⟨p1, hp1⟩ : ∃ x, 1024 * f1 = x := ⟨_, rfl⟩
      obtain ⟨ph, hph⟩ : ∃ x, f1 + c1 = x := ⟨_, rfl⟩
      obtain ⟨p2, hp2⟩ : ∃ x, 1024 * ph = x := ⟨_, rfl⟩
      rw [hph, hp1, hp2] at HZ
      have j1 : IntKind.i64.wrap ((f1 : Int) * 1024) = p1 := by rw [show (f1 : Int) * 1024 = (p1 : Int) by omega]; exact wrap_nat _ (by omega)
      have j2 : IntKind.i64.wrap ((f1 : Int) + c1) = ph := by rw [show (f1 : Int) + c1 = (ph : Int) by omega]; exact wrap_nat _ (by omega)
      have j3 : IntKind.i64.wrap ((ph : Int) * 1024) = p2 := by rw [show (ph : Int) * 1024 = (p2 : Int) by omega]; exact wrap_nat _ (by omega)
      clear hp1 hph hp2
      go_wp2
      go_loop [14] (fun iv => ∃ i : Nat, i ≤ 5120 ∧ iv = .int .i64 i) (fun iv => 5120 - (intOf iv).toNat)
      case atStart => exact ⟨0, Nat.zero_le _, rfl⟩
      case round =>
        obtain ⟨i, hi, rfl⟩ := hrel
        by_cases hit : i < 5120
        · by_cases u1 : i < p1
          · have cz := HZ.out i hit (.inl u1)
            have v1 : decide ((i : Int) < p1) = true := decide_eq_true (by omega)
            go_wp2
            go_round
            case rel => exact ⟨i + 1, hit, by go_num⟩
            case measure => simp [intOf]; omega
          · have v1 : decide ((i : Int) < p1) = false := decide_eq_false (by omega)
            by_cases u2 : p2 ≤ i
            · have cz := HZ.out i hit (.inr u2)
              have v2 : decide ((p2 : Int) ≤ i) = true := decide_eq_true (by omega)
              go_wp2
              go_round
              case rel => exact ⟨i + 1, hit, by go_num⟩
              case measure => simp [intOf]; omega
            · have v2 : decide ((p2 : Int) ≤ i) = false := decide_eq_false (by omega)
              go_wp2
              go_round
              case rel => exact ⟨i + 1, hit, by go_num⟩
              case measure => simp [intOf]; omega
        · obtain rfl : i = 5120 := by omega
          go_wp2
          go_ret
          exact ⟨rfl, HK.out.below (fun _ _ h => h)⟩
theorem only3_all (first count : Int) (A : Option Addr) (m cap : Nat) (xs : List Value) (W : World) (hs : IsSl W A m cap 4 xs) (h : ∀ i, i < m → ∃ c, ActAt W xs i c) :
    Calls Try.prog 8 #[.int .i64 first, .int .i64 count, .slice A m cap] W fun e w' => e = .returned (.bool true) ∧ Below W.heap.size W w' := by
  obtain ⟨F, hF⟩ := acts_of hs h
  exact only3_any first count A m cap xs F W hF
set_option maxRecDepth 100000 in
theorem RegionOnly_lifted (os : Os) (started : os.Started) (H : Type) (enc : TypeId × Value → H) :
    ReturnsInHanded {} Try.checked os 8 .any (Rows.regionOnlySpec.pre6 enc Try.prog Try.f8 Rows.regionOnlyRow.domain false) (Rows.regionOnlySpec.post enc Try.prog Try.f8 false true false false) := by
  refine returnsInHanded_of_change (C := Try.checked) Try.own started (by kernel_rfl) Try.func8
    (ChangeSpec.witness6 (enc := enc) (C := Try.checked) false ⟨#[], #[.int .i64 0, .int .i64 0, .slice none 0 0], []⟩ 8 (by kernel_rfl) (by kernel_rfl) (by kernel_rfl) (by kernel_rfl)) ?_
  intro W base args ds gs before hval0 hW hcnd _
  have hval : ∀ (j : Nat) t v, Try.f8.params[j]? = some t → args[j]? = some v → Value.okWide Try.prog W .any base t v := hval0
  have hW' := hW
  obtain ⟨p, q, hA0, hV, rfl, hfz, hnd⟩ := hW
  have hA : DataW.TrodAll enc Try.prog W 0 (fun _ => true) true Try.f8.params.toList args.toList ds p := hA0
  rw [Try.params8] at hA hval
  obtain ⟨v0, vs0, d0, ds0, p0, q0, hargs, rfl, rfl, h0, r0⟩ := trodAll_cons hA
  obtain ⟨v1, vs1, d1, ds1, p1, q1, rfl, rfl, rfl, h1, r1⟩ := trodAll_cons r0
  obtain ⟨v2, vs2, d2, ds2, p2, q2, rfl, rfl, rfl, h2, r2⟩ := trodAll_cons r1
  obtain ⟨rfl, rfl, rfl⟩ := trodAll_nil r2
  obtain rfl : args = #[v0, v1, v2] := by cases args; simp_all
  obtain ⟨rfl, rfl⟩ := trodVars_none hV
  have k0 := h0
  have lt0 : ∀ x ∈ p0, x.block < W.heap.size := by obtain ⟨m, hm⟩ := k0; exact DataW.trod_lt m _ _ _ hm
  obtain ⟨a0, rfl, rfl, rfl, w0⟩ := open_int Try.underlying3 (hval 0 3 v0 rfl rfl) h0
  have k1 := h1
  have lt1 : ∀ x ∈ p1, x.block < W.heap.size := by obtain ⟨m, hm⟩ := k1; exact DataW.trod_lt m _ _ _ hm
  obtain ⟨a1, rfl, rfl, rfl, w1⟩ := open_int Try.underlying3 (hval 1 3 v1 rfl rfl) h1
  have k2 := h2
  have lt2 : ∀ x ∈ p2, x.block < W.heap.size := by obtain ⟨m, hm⟩ := k2; exact DataW.trod_lt m _ _ _ hm
  obtain ⟨a2, len2, cap2, rfl⟩ := okWide_slice Try.underlying58 (hval 2 58 v2 rfl rfl)
  obtain ⟨z2, s2, f2⟩ := open_structs' Try.underlying58 Try.underlying60 (by kernel_rfl) (by kernel_rfl) (by decide) h2
  clear hA0 hval0
  refine (only3_all a0 a1 a2 len2 cap2 z2 W s2 (fun i hi => by obtain ⟨y0, e0, _⟩ := fld_int f2 (j := 0) rfl Try.underlying3 hi; obtain ⟨y1, e1, _⟩ := fld_int f2 (j := 1) rfl Try.underlying3 hi; obtain ⟨y2, e2, w2⟩ := fld_int f2 (j := 2) rfl Try.underlying3 hi; obtain ⟨A, l, c, zs, e3, hb⟩ := fld_bytes f2 (j := 3) rfl rfl hi; exact ⟨⟨y0, y1, y2, A, l, c, zs⟩, e0, e1, e2, e3, hb, (wf_i64_bd w2).2⟩)).mono fun e W' ⟨he, bel⟩ => ?_
  subst he
  exact ⟨_, rfl, _, _, _, [], _, [], hW', trodAll_mk1 (shut_bool Try.underlying4 _), (trodAll_cons_mk (Below.trod Try.laidOut (by kernel_rfl) (of_decide_eq_true (by kernel_rfl)) k0 bel lt0) (trodAll_cons_mk (Below.trod Try.laidOut (by kernel_rfl) (of_decide_eq_true (by kernel_rfl)) k1 bel lt1) (trodAll_cons_mk (Below.trod Try.laidOut (by kernel_rfl) (of_decide_eq_true (by kernel_rfl)) k2 bel lt2) trodAll_mk0))), rfl, bel.frame _, fun h => by cases h⟩

set_option maxRecDepth 100000 in
theorem RegionOnly_closed : joinedFacts Try.checked.prog 8 Try.f8 Rows.regionOnlySpec Rows.regionOnlyRow = true := by
  unfold joinedFacts
  rw [closed_laid, closed_maps, closed_heard, closed_plain, closed_mayEnter, closed_lifts, closed_make]
  kernel_rfl

theorem RegionOnly_holds : Rows.RegionOnlySaid :=
  OpenClaim.holds_of_wide 8 Try.f8 rfl rfl rfl rfl rfl rfl rfl ⟨rfl, rfl, rfl, rfl, rfl⟩ rfl rfl rfl rfl rfl (by kernel_rfl) Try.func8 RegionOnly_closed
    (of_decide_eq_true (by kernel_rfl)) (by unfold Func.isWrapper; first | (rw [if_pos (by decide +kernel)]; kernel_rfl) | (rw [if_neg (by decide +kernel)]; exact ⟨rfl, rfl⟩))
    (fun os started H enc _ => RegionOnly_lifted os started H enc)
#print axioms RegionOnly_holds
end Go.Proofs.Ytngofnlhbhfigaa
