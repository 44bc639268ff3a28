/-
  For every two rows of bits, every row of chances and every place, the law CoderOrder returns true: of two rows of bits, alike up to one, the one that has a 0 there comes to a lesser number. No condition.
-/
import Derived.Test.YteokbedjcnfgiaaCodMath
import Derived.Test.YteokbedjcnfgiaaCodLength
import Derived.Test.YteokbedjcnfgiaaMix2
import Derived.Laws.OwnMore
namespace Go.Proofs.Yteokbedjcnfgiaa
open Go.RowKit Go.ChangeShapes Go.WideShapes Go.ChangeAt

/-- A slice of bits of the call's own. -/
def OwnB (w : World) (B : Nat) (v : Value) (bs : List Bool) : Prop := w.ownsRow B 4 1 v bs.length (bs.map .bool)
theorem OwnB.nil (w : World) (B : Nat) : OwnB w B (.slice none 0 0) [] := World.ownsRow_nil _ _ _ _
theorem OwnB.keeps {w w' : World} {B : Nat} {v : Value} {bs : List Bool} {S : Nat → Prop} (h : OwnB w B v bs) (hk : Keeps S w w') (hS : ∀ b, v.ownBlock = some b → ¬ S b) : OwnB w' B v bs := by
  refine ⟨h.1, ?_⟩
  rcases h.2 with hn | ⟨g, cap, cur, rfl, hb, hg, rest⟩
  · exact .inl hn
  · refine .inr ⟨g, cap, cur, rfl, hb, ?_, rest⟩
    rw [hk.block g (Array.getElem?_eq_some_iff.1 hg).1 (hS g rfl)]; exact hg
theorem OwnB.shape {w : World} {B : Nat} {v : Value} {bs : List Bool} (h : OwnB w B v bs) (hp : 0 < bs.length) : ∃ g cap, v = .slice (some ⟨g, 0, none⟩) bs.length cap ∧ B ≤ g ∧ g < w.heap.size ∧ bs.length ≤ cap ∧ cap ≤ 9223372036854775807 := by
  rcases h.2 with ⟨_, h0⟩ | ⟨g, cap, cur, rfl, hb, hg, hn, hm, _⟩
  · omega
  · exact ⟨g, cap, rfl, hb, (Array.getElem?_eq_some_iff.1 hg).1, hn, by unfold maxLen at hm; omega⟩
theorem OwnB.isSl {w : World} {B g n cap : Nat} {bs : List Bool} (h : OwnB w B (.slice (some ⟨g, 0, none⟩) n cap) bs) (hn : n = bs.length) (hg : g < w.heap.size) (h1 : n ≤ cap) (h2 : cap ≤ 9223372036854775807) : IsSl w (some ⟨g, 0, none⟩) n cap 1 (bs.map .bool) := by
  subst hn
  exact ⟨by simp, h1, h2, fun _ => ⟨g, 0, rfl, hg, fun i hi => by rw [Nat.zero_add]; exact h.cellAt i (by simpa using hi)⟩⟩
theorem OwnB.store {w : World} {B g n cap : Nat} {bs : List Bool} (h : OwnB w B (.slice (some ⟨g, 0, none⟩) n cap) bs) (hn : n = bs.length) (j : Nat) (b : Bool) : OwnB (w.setCell ⟨g, j, none⟩ (.bool b)) B (.slice (some ⟨g, 0, none⟩) n cap) (bs.set j b) := by
  subst hn
  unfold OwnB
  rw [List.length_set, List.map_set]
  exact (World.ownsRow.stored h j (.bool b)).1
theorem OwnB.block {w : World} {B : Nat} {v : Value} {bs : List Bool} (h : OwnB w B v bs) {b : Nat} (hb : v.ownBlock = some b) : B ≤ b ∧ b < w.heap.size := World.ownsRow.lt h b hb
theorem OwnB.cellV {w : World} {B g n cap : Nat} {bs : List Bool} (h : OwnB w B (.slice (some ⟨g, 0, none⟩) n cap) bs) {j : Nat} (hj : j < bs.length) : w.cell? ⟨g, j, none⟩ = some (.bool (bs.getD j false)) := by
  have hn : n = bs.length := by
    rcases h.2 with ⟨e, _⟩ | ⟨_, _, _, e, _⟩
    · cases e
    · cases e; rfl
  subst hn
  rw [World.ownsRow.cellAt h j (by omega), map_getD false hj]
theorem Try.info4 : (Try.prog.info? 4).map (fun i => (i.zero, i.size, i.bytes)) = some (some (.bool false), 1, 1) := by kernel_rfl
theorem wpList_append_bl {ops : Array Oper} {rest : List Oper} {o : Oper} {a : Act} {Q : Exit → Act → World → Prop} {s x : Operand} {w : World} {B : Nat} {v : Value} {bs ns : List Bool} {b off m c : Nat}
    (hown : OwnB w B v bs) (hc : ∀ j, j < m → w.cell? ⟨b, off + j, none⟩ = some (.bool (ns.getD j false))) (hm : ns.length = m) (hlen : bs.length + m ≤ 1099511627776) (hB : B ≤ w.heap.size) (hg : o.guard = none) (hty : o.type = 54) (ho : o.op = .call { callee := .builtin .append, args := #[s, x], argTypes := #[54, 54] }) (h1 : a.eval s = v) (h2 : a.eval x = .slice (some ⟨b, off, none⟩) m c)
    (h : ∀ v' w', OwnB w' B v' (bs ++ ns) → Keeps (fun k => v.ownBlock = some k) w w' → wpList Try.prog ops Q rest (a.put o.dst v') w') : wpList Try.prog ops Q (o :: rest) a w := by
  obtain ⟨i, hi, hz0, hz1, hz2⟩ := info_parts Try.info4
  obtain ⟨v', w', hr, h3, hgr, _⟩ := run_append_own (P := Try.prog) w B 54 54 4 i (.bool false) 1 1 Try.underlying54 hi hz0 hz1 hz2 rfl (by decide) v bs.length (bs.map .bool) hown ⟨b, off, none⟩ m c (ns.map .bool) (by simp [hm])
    (fun j u hu => by
      have hj : j < ns.length := by
        rcases Nat.lt_or_ge j ns.length with h | h
        · exact h
        · rw [List.getElem?_eq_none (by simpa using h)] at hu; cases hu
      have e2 : (⟨b, off, none⟩ : Addr).add j = ⟨b, off + j, none⟩ := by unfold Addr.add; split <;> simp_all
      rw [e2, hc j (by omega), ← hu, map_getD false hj])
    (by intro u hu; obtain ⟨z, _, rfl⟩ := List.mem_map.1 hu; rfl) (by unfold maxLen; omega) (by omega) hB
  refine wpList_append_run hr hg hty ho h1 h2 (h v' w' ?_ ((Keeps.refl _ w).grown hgr (fun k hk _ => hk)))
  unfold OwnB
  rw [List.length_append, hm, List.map_append]; exact h3

theorem take_getD {bs : List Bool} {a j : Nat} (h : j < a) : (bs.take a).getD j false = bs.getD j false := by
  simp [List.getD, List.getElem?_take, h]
theorem drop_getD {bs : List Bool} {a j : Nat} : (bs.drop a).getD j false = bs.getD (a + j) false := by
  simp [List.getD, List.getElem?_drop]
theorem own_ne {g n cap b c : Nat} (e : (Value.slice (some ⟨g, 0, none⟩) n cap).ownBlock = some b) (h : b = c) (hne : g ≠ c) : False := hne ((show g = b by simpa [Value.ownBlock] using e).trans h)
def rowX (bs : List Bool) (a : Nat) : List Bool := bs.set a false
def rowY (bs ms : List Bool) (a : Nat) : List Bool := (bs.take a ++ ms.drop a).set a true
theorem rowX_get {bs : List Bool} {a : Nat} (ha : a < bs.length) : (rowX bs a).getD a true = false ∧ ∀ i, i < a → (rowX bs a).getD i false = bs.getD i false := by
  unfold rowX
  refine ⟨by simp [List.getD, List.getElem?_set, ha], fun i hi => ?_⟩
  simp [List.getD, List.getElem?_set, show ¬ a = i by omega]
theorem rowY_get {bs ms : List Bool} {a : Nat} (ha : a < bs.length) (hm : ms.length = bs.length) : (rowY bs ms a).length = bs.length ∧ (rowY bs ms a).getD a false = true ∧ ∀ i, i < a → (rowY bs ms a).getD i false = bs.getD i false := by
  unfold rowY
  have hl : (bs.take a ++ ms.drop a).length = bs.length := by simp; omega
  refine ⟨by simp; omega, ?_, fun i hi => ?_⟩
  · simp only [List.getD, List.getElem?_set, hl, ha, if_true]; rfl
  · simp only [List.getD, List.getElem?_set, show ¬ a = i by omega, if_false]
    rw [List.getElem?_append_left (by simp; omega), List.getElem?_take, if_pos hi]

/-- The first place in which the two lows differ. -/
theorem order_first (f g : Nat → Bool) (q : Nat → Int) (a n : Nat) (hat : a < n) (h : ∀ i, i < a → f i = g i) (hf : f a = false) (hg : g a = true) :
    (∀ i, (∀ j, j < i → (cS f q n).l.getD j 0 = (cS g q n).l.getD j 0) → (cS f q n).l.getD i 0 ≤ (cS g q n).l.getD i 0) ∧
    ¬ ∀ j, j < max (cS f q n).l.length (cS g q n).l.length → (cS f q n).l.getD j 0 = (cS g q n).l.getD j 0 := by
  have hn := order_num f g q a n (max (cS f q n).l.length (cS g q n).l.length) hat h hf hg (by omega) (by omega)
  have o1 := (cS_ok f q n).byte
  have o2 := (cS_ok g q n).byte
  generalize (cS f q n).l = F at *
  generalize (cS g q n).l = G at *
  have l1 := pad_length F (max F.length G.length) (by omega)
  have l2 := pad_length G (max F.length G.length) (by omega)
  refine ⟨fun i hp => ?_, fun hp => ?_⟩
  · by_cases hi : i < max F.length G.length
    · have := num_first _ _ (pad_byte o1 (max F.length G.length)) (pad_byte o2 (max F.length G.length)) (by rw [l1, l2]) hn i (by rw [l1]; exact hi) (fun j hj => by rw [pad_getD, pad_getD]; exact hp j hj)
      rwa [pad_getD, pad_getD] at this
    · simp [List.getD, List.getElem?_eq_none (show F.length ≤ i by omega), List.getElem?_eq_none (show G.length ≤ i by omega)]
  · have := num_eq (pad F (max F.length G.length)) (pad G (max F.length G.length)) (by rw [l1, l2]) (fun j hj => by rw [pad_getD, pad_getD]; rw [l1] at hj; exact hp j hj)
    rw [this] at hn
    exact absurd hn (Int.lt_irrefl _)

set_option maxRecDepth 100000 in
set_option maxHeartbeats 3200000 in
theorem order16_any (A A2 A3 : Option Addr) (n cap n2 cap2 n3 cap3 : Nat) (at_ : Int) (bs ms : List Bool) (ps : List Int) (W : World) (hl1 : bs.length = n) (h1 : IsSl W A n cap 1 (bs.map .bool)) (hl2 : ms.length = n2) (h2 : IsSl W A2 n2 cap2 1 (ms.map .bool)) (hl3 : ps.length = n3) (h3 : IsSl W A3 n3 cap3 1 (ps.map (.int .i64))) :
    Calls Try.prog 6 #[.slice A n cap, .slice A2 n2 cap2, .slice A3 n3 cap3, .int .i64 at_] W fun e w' => e = .returned (.bool true) ∧ Below W.heap.size W w' := by
  have ALV : Hid (∀ w, Calls Try.prog 37 #[] w fun e w' => e = .returned (.bool true) ∧ Below w.heap.size w w') := alive16_any
  by_cases g1 : 200 < n
  · have d1 : decide (200 < (n : Int)) = true := decide_eq_true (by omega)
    clear h1 h2 h3 hl1 hl2 hl3
    go_enter Try.func6, Try.ntmps6
    go_wp2_with fail
    refine (ALV.out _).mono ?_
    rintro e w1 ⟨rfl, hk⟩
    go_wp2
    go_ret
    exact ⟨rfl, hk⟩
  have d1 : decide (200 < (n : Int)) = false := decide_eq_false (by omega)
  by_cases g2 : n2 = n
  case neg =>
    have d2 : ((n2 : Int) != n) = true := by simp; omega
    clear h1 h2 h3 hl1 hl2 hl3
    go_enter Try.func6, Try.ntmps6
    go_wp2_with fail
    refine (ALV.out _).mono ?_
    rintro e w1 ⟨rfl, hk⟩
    go_wp2
    go_ret
    exact ⟨rfl, hk⟩
  subst g2
  by_cases g3 : n3 < n2
  · have d3 : decide ((n3 : Int) < n2) = true := decide_eq_true (by omega)
    clear h1 h2 h3 hl1 hl2 hl3
    go_enter Try.func6, Try.ntmps6
    go_wp2_with fail
    refine (ALV.out _).mono ?_
    rintro e w1 ⟨rfl, hk⟩
    go_wp2
    go_ret
    exact ⟨rfl, hk⟩
  have d3 : decide ((n3 : Int) < n2) = false := decide_eq_false (by omega)
  have d3' : decide (n3 < n2) = false := decide_eq_false (by omega)
  by_cases g4 : at_ < 0
  · have d4 : decide (at_ < 0) = true := decide_eq_true g4
    clear h1 h2 h3 hl1 hl2 hl3
    go_enter Try.func6, Try.ntmps6
    go_wp2_with fail
    refine (ALV.out _).mono ?_
    rintro e w1 ⟨rfl, hk⟩
    go_wp2
    go_ret
    exact ⟨rfl, hk⟩
  obtain ⟨a, rfl⟩ : ∃ a : Nat, at_ = a := ⟨at_.toNat, by omega⟩
  have d4 : decide ((a : Int) < 0) = false := decide_eq_false g4
  by_cases g5 : n2 ≤ a
  · have d5 : decide ((n2 : Int) ≤ a) = true := decide_eq_true (by omega)
    have d6 : decide (n2 ≤ a) = true := decide_eq_true (by omega)
    clear h1 h2 h3 hl1 hl2 hl3
    go_enter Try.func6, Try.ntmps6
    go_wp2_with fail
    refine (ALV.out _).mono ?_
    rintro e w1 ⟨rfl, hk⟩
    go_wp2
    go_ret
    exact ⟨rfl, hk⟩
  have d5 : decide ((n2 : Int) ≤ a) = false := decide_eq_false (by omega)
  have d6 : decide (n2 ≤ a) = false := decide_eq_false (by omega)
  have hat : a < n2 := by omega
  obtain ⟨_, hcap, hmax, hcell⟩ := h1
  obtain ⟨_, hcap2, hmax2, hcell2⟩ := h2
  have hmax3 := h3.2.2.1
  have hcap3 := h3.2.1
  obtain ⟨b1, o1, rfl, hb1, hc1⟩ := hcell (by omega)
  obtain ⟨b2, o2, rfl, hb2, hc2⟩ := hcell2 (by omega)
  have HX := Lib.hid (fun w' (hb : Below W.heap.size W w') i (hi : i < n2) => show w'.cell? ⟨b1, o1 + i, none⟩ = some (.bool (bs.getD i false)) by
    rw [hb.cell (p := ⟨b1, o1 + i, none⟩) hb1, hc1 i (by omega), map_getD false (by omega)])
  have HY := Lib.hid (fun w' (hb : Below W.heap.size W w') i (hi : i < n2) => show w'.cell? ⟨b2, o2 + i, none⟩ = some (.bool (ms.getD i false)) by
    rw [hb.cell (p := ⟨b2, o2 + i, none⟩) hb2, hc2 i (by omega), map_getD false (by omega)])
  have H3 := Lib.hid h3
  have HL1 := Lib.hid hl1
  have HL2 := Lib.hid hl2
  have HL3 := Lib.hid hl3
  have hca : ¬ cap2 = a := by omega
  have n200 : n2 ≤ 200 := by omega
  have hn23 : n2 ≤ n3 := by omega
  clear h3 hl1 hl2 hl3 hcell hcell2 hc1 hc2 hb1 hb2 g1 g3 g4 g5
  go_enter Try.func6, Try.ntmps6
  go_wp2_with fail
  refine (ALV.out _).mono ?_
  rintro e w1 ⟨rfl, hk⟩
  have K1 := Lib.hid hk
  clear hk ALV
  go_wp2_with (at_builtin; refine Hid.out ?_)
  refine Lib.hid ?_
  refine wpList_append_bl (B := w1.heap.size) (OwnB.nil _ _) (HX.out w1 K1.out) HL1.out (by simp; omega) (Nat.le_refl _) rfl rfl rfl rfl rfl ?_
  intro v2 w2 ho2 hk2
  rw [List.nil_append] at ho2
  have K2 := Lib.hid (below_keeps K1.out hk2 (fun i e => by simp [Value.ownBlock] at e))
  have N2 : Hid (Keeps None w1 w2) := hk2.mono (fun i hi e => by simp [Value.ownBlock] at e)
  have O2 := Lib.hid ho2
  clear ho2 hk2
  go_wp2
  obtain ⟨mS, mh⟩ : ∃ S : World → Prop, ∀ w', S w' ↔ (True) := ⟨_, fun _ => Iff.rfl⟩
  have mn : Nonempty (Memb mS) := ⟨⟨(w2).drew, (mh _).2 trivial⟩⟩
  have mH := Lib.hid mh
  clear mh
  refine wp_region_mix [3, 7] (InS mS) (by kernel_rfl) (by kernel_rfl) (InS.mk ((mH.out _).2 trivial)) ?_
  refine wpMix_seg 3 (by kernel_rfl) (by decide) ?_
  simp only [List.take_succ_cons, List.take_zero, List.drop_succ_cons, List.drop_zero]
  repeat (go_big_quiet_step (fail))
  refine wpQuiet_nil ?_
  refine wpMix_eff (by kernel_rfl) ?_
  go_wp2_with (at_builtin; refine wpList_append_bl (B := w2.heap.size) (OwnB.nil _ _) (ns := bs.take a) (fun j hj => by rw [take_getD hj]; exact HX.out _ (below_drew1 K2.out) j (by omega)) (by rw [List.length_take, HL1.out]; omega) (by simp; omega) (Nat.le_refl _) rfl rfl rfl rfl rfl ?_; intro v3 w3 ho3 hk3; rw [List.nil_append] at ho3)
  have K3 := Lib.hid (below_keeps (below_drew1 K2.out) hk3 (fun i e => by simp [Value.ownBlock] at e))
  have N3 : Hid (Keeps None w2 w3) := ((Keeps.refl None w2).drew.trans hk3 (fun _ h => h) (fun i hi e => by simp [Value.ownBlock] at e))
  have O3 := Lib.hid ho3
  clear ho3 hk3
  refine MixK.on (InS.mk ((mH.out _).2 trivial)) ?_
  refine wpMix_seg 3 (by kernel_rfl) (by decide) ?_
  simp only [List.take_succ_cons, List.take_zero, List.drop_succ_cons, List.drop_zero]
  repeat (go_big_quiet_step (fail))
  refine wpQuiet_nil ?_
  refine wpMix_eff (by kernel_rfl) ?_
  go_wp2_with (at_builtin; refine wpList_append_bl (B := w2.heap.size) O3.out (ns := ms.drop a) (fun j hj => by rw [drop_getD, Nat.add_assoc]; exact HY.out _ K3.out (a + j) (by omega)) (by rw [List.length_drop, HL2.out]) (by simp; omega) N3.out.size rfl rfl rfl rfl rfl ?_; intro v4 w4 ho4 hk4)
  have K4 := Lib.hid (below_keeps K3.out hk4 (fun i e => Nat.le_trans K2.out.size (O3.out.block e).1))
  have N4 : Hid (Keeps None w2 w4) := N3.out.trans hk4 (fun _ h => h) (fun i hi e => absurd (O3.out.block e).1 (by omega))
  have O4 := Lib.hid ho4
  clear ho4 hk4
  refine MixK.on (InS.mk ((mH.out _).2 trivial)) ?_
  refine wpMix_seg 1 (by kernel_rfl) (by decide) ?_
  simp only [List.take_succ_cons, List.take_zero, List.drop_succ_cons, List.drop_zero]
  repeat (go_big_quiet_step (fail))
  refine wpQuiet_nil ?_
  refine wpMix_nil ?_
  clear  mn mH
  have LY : Hid ((bs.take a ++ ms.drop a).length = n2) := by
    show (bs.take a ++ ms.drop a).length = n2
    rw [List.length_append, List.length_take, List.length_drop, HL1.out, HL2.out]; omega
  obtain ⟨gx, cx, rfl, x1, x2, x3, x4⟩ := O2.out.shape (by rw [HL1.out]; omega)
  obtain ⟨gy, cy, rfl, y1, y2, y3, y4⟩ := O4.out.shape (by rw [LY.out]; omega)
  have hxb : W.heap.size ≤ gx := Nat.le_trans K1.out.size x1
  have hgy : gx < gy := by omega
  have OX := Lib.hid (O2.out.keeps N4.out (fun _ _ h => h))
  have oxv := OX.out.cellV (j := a) (by rw [HL1.out]; exact hat)
  have oxf := World.ownsRow.frozenAt OX.out a
  have oyv := O4.out.cellV (j := a) (by rw [LY.out]; exact hat)
  have oyf := World.ownsRow.frozenAt O4.out a
  have lx := HL1.out
  have ly := LY.out
  rw [lx] at x3 OX ⊢
  rw [ly] at y3 O4 ⊢
  have K5 : Hid (Below W.heap.size W ((w4.setCell ⟨gx, a, none⟩ (.bool false)).setCell ⟨gy, a, none⟩ (.bool true))) := below_keeps (below_keeps K4.out (S := fun i => i = gx) ((Keeps.refl _ w4).setCell _ _ (fun _ => rfl)) (fun i e => by omega)) (S := fun i => i = gy) ((Keeps.refl _ _).setCell _ _ (fun _ => rfl)) (fun i e => by omega)
  have OX5 : Hid (OwnB ((w4.setCell ⟨gx, a, none⟩ (.bool false)).setCell ⟨gy, a, none⟩ (.bool true)) w1.heap.size (.slice (some ⟨gx, 0, none⟩) n2 cx) (rowX bs a)) := (OX.out.store lx.symm a false).keeps (S := fun i => i = gy) ((Keeps.refl _ _).setCell _ _ (fun _ => rfl)) (fun b e h => own_ne e h (by omega))
  have OY5 : Hid (OwnB ((w4.setCell ⟨gx, a, none⟩ (.bool false)).setCell ⟨gy, a, none⟩ (.bool true)) w2.heap.size (.slice (some ⟨gy, 0, none⟩) n2 cy) (rowY bs ms a)) := (O4.out.keeps (S := fun i => i = gx) ((Keeps.refl _ _).setCell _ _ (fun _ => rfl)) (fun b e h => own_ne e h (by omega))).store ly.symm a true
  have gx4 : gx < w4.heap.size := Nat.lt_of_lt_of_le x2 N4.out.size
  obtain ⟨fx, FXd⟩ : ∃ f : Nat → Bool, ∀ i, (rowX bs a).getD i false = f i := ⟨_, fun _ => rfl⟩
  obtain ⟨fy, FYd⟩ : ∃ f : Nat → Bool, ∀ i, (rowY bs ms a).getD i false = f i := ⟨_, fun _ => rfl⟩
  obtain ⟨q, Qd⟩ : ∃ q : Nat → Int, ∀ i, ps.getD i 0 = q i := ⟨_, fun _ => rfl⟩
  have ORD : Hid (_ ∧ _) := order_first fx fy q a n2 hat
    (fun i hi => by rw [← FXd, ← FYd, (rowX_get (by omega)).2 i hi, (rowY_get (by omega) (by rw [lx]; exact HL2.out)).2.2 i hi])
    (by rw [← FXd]; simp [List.getD, rowX, lx, hat])
    (by rw [← FYd]; exact (rowY_get (by omega) (by rw [lx]; exact HL2.out)).2.1)
  have sl3 := isSl_below H3.out K5.out
  have CX := Lib.hid (cbits_any _ A3 n2 cx n3 cap3 fx q (rowX bs a) ps _ (OX5.out.isSl (by simp [rowX, lx]) (by simpa using gx4) x3 x4) sl3 (by simp [rowX, lx]) HL3.out (by omega) (by omega) (fun i _ => FXd i) (fun i _ => Qd i))
  have slY := OY5.out.isSl (by rw [(rowY_get (by omega) (by rw [lx]; exact HL2.out)).1, lx]) (by simpa using y2) y3 y4
  have RY : Hid ((rowY bs ms a).length = n2) := by
    show (rowY bs ms a).length = n2
    rw [(rowY_get (by omega) (by rw [lx]; exact HL2.out)).1, lx]
  have CY := Lib.hid (fun w6 (hk : Keeps None ((w4.setCell ⟨gx, a, none⟩ (.bool false)).setCell ⟨gy, a, none⟩ (.bool true)) w6) => cbits_any _ A3 n2 cy n3 cap3 fy q (rowY bs ms a) ps w6 (slY.keeps hk (fun _ _ h => h)) (sl3.keeps hk (fun _ _ h => h)) RY.out HL3.out (by omega) (by omega) (fun i _ => FYd i) (fun i _ => Qd i))
  have LF := Lib.hid (cS_len fx q n2)
  have LG := Lib.hid (cS_len fy q n2)
  clear sl3 slY RY OX5 OY5 FXd FYd Qd OX O4 O2 HL2 HL3 H3 HX HY lx ly LY HL1 N2 N3 N4 O3 K1 K2 K3 K4
  generalize (cS fx q n2).l = F at *
  generalize (cS fy q n2).l = G at *
  go_wp2_with fail
  refine CX.out.mono ?_
  rintro e w6 ⟨v6, rfl, o6, k6⟩
  go_wp2_with fail
  refine (CY.out _ k6).mono ?_
  rintro e w7 ⟨v7, rfl, o7, k7⟩
  obtain ⟨A6, cap6, rfl, bs6, -⟩ := o6.shape
  obtain ⟨A7, cap7, rfl, bs7, -⟩ := o7.shape
  have B6 := Lib.hid (bs6.keeps k7 (fun _ _ _ _ _ h => h))
  have B7 := Lib.hid bs7
  have K7 := Lib.hid (below_keeps (below_keeps K5.out k6 (fun _ h => h.elim)) k7 (fun _ h => h.elim))
  have lF := LF.out
  have lG := LG.out
  clear CX CY K5 k6 k7 o6 o7 bs6 bs7 LF LG oxv oyv oxf oyf
  go_wp2
  go_loop [14] (fun iv => ∃ i : Nat, i ≤ max F.length G.length ∧ iv = .int .i64 i ∧ ∀ j, j < i → F.getD j 0 = G.getD j 0) (fun iv => max F.length G.length - (intOf iv).toNat)
  case atStart => exact ⟨0, Nat.zero_le _, rfl, fun j hj => by omega⟩
  case round =>
    obtain ⟨i, him, rfl, hEq⟩ := hrel
    have HE := Lib.hid hEq
    have hle := ORD.out.1 i hEq
    clear hEq
    by_cases iF : i < F.length
    · obtain ⟨bl, off, x, rfl, hx, hxa, hxb, hc⟩ := B6.out.get iF
      rw [hx] at hle
      by_cases iG : i < G.length
      · obtain ⟨bl2, off2, y, rfl, hy, hya, hyb, hcy⟩ := B7.out.get iG
        rw [hy] at hle
        by_cases hxy : x = y
        · have HN : Hid (∀ j, j < i + 1 → F.getD j 0 = G.getD j 0) := fun j hj => by
            by_cases hj2 : j < i
            · exact HE.out j hj2
            · obtain rfl : j = i := by omega
              first | rw [hx, hy]; exact hxy
          clear hx hy HE ORD hle
          try subst hxy
          go_wp2
          go_round
          case rel => exact ⟨i + 1, by omega, by go_num, HN.out⟩
          case measure => simp [intOf]; omega
        · have hlt : (x : Int) < y := by omega
          have hne : ((x : Int) != y) = true := by simp; omega
          clear hx hy HE ORD hle
          go_wp2
          go_ret
          exact ⟨by first | rfl | (simp; omega), K7.out⟩
      · have hy : G.getD i 0 = 0 := by simp [List.getD, List.getElem?_eq_none (show G.length ≤ i by omega)]
        rw [hy] at hle
        by_cases hxy : x = 0
        · have HN : Hid (∀ j, j < i + 1 → F.getD j 0 = G.getD j 0) := fun j hj => by
            by_cases hj2 : j < i
            · exact HE.out j hj2
            · obtain rfl : j = i := by omega
              first | rw [hx, hy]; exact hxy
          clear hx hy HE ORD hle
          try subst hxy
          go_wp2
          go_round
          case rel => exact ⟨i + 1, by omega, by go_num, HN.out⟩
          case measure => simp [intOf]; omega
        · have hlt : (x : Int) < 0 := by omega
          have hne : ((x : Int) != 0) = true := by simp; omega
          clear hx hy HE ORD hle
          go_wp2
          go_ret
          exact ⟨by first | rfl | (simp; omega), K7.out⟩
    · have hx : F.getD i 0 = 0 := by simp [List.getD, List.getElem?_eq_none (show F.length ≤ i by omega)]
      rw [hx] at hle
      by_cases iG : i < G.length
      · obtain ⟨bl2, off2, y, rfl, hy, hya, hyb, hcy⟩ := B7.out.get iG
        rw [hy] at hle
        by_cases hxy : 0 = y
        · have HN : Hid (∀ j, j < i + 1 → F.getD j 0 = G.getD j 0) := fun j hj => by
            by_cases hj2 : j < i
            · exact HE.out j hj2
            · obtain rfl : j = i := by omega
              first | rw [hx, hy]; exact hxy
          clear hx hy HE ORD hle
          try subst hxy
          go_wp2
          go_round
          case rel => exact ⟨i + 1, by omega, by go_num, HN.out⟩
          case measure => simp [intOf]; omega
        · have hlt : (0 : Int) < y := by omega
          have hne : ((0 : Int) != y) = true := by simp; omega
          clear hx hy HE ORD hle
          go_wp2
          go_ret
          exact ⟨by first | rfl | (simp; omega), K7.out⟩
      · exact absurd (fun j hj => HE.out j (by omega)) ORD.out.2
set_option maxRecDepth 100000 in
theorem CoderOrder_lifted (os : Os) (started : os.Started) (H : Type) (enc : TypeId × Value → H) :
    ReturnsInHanded {} Try.checked os 6 .any (Rows.coderOrderSpec.pre6 enc Try.prog Try.f6 Rows.coderOrderRow.domain false) (Rows.coderOrderSpec.post enc Try.prog Try.f6 false true false false) := by
  refine returnsInHanded_of_change (C := Try.checked) Try.own started (by kernel_rfl) Try.func6
    (ChangeSpec.witness6 (enc := enc) (C := Try.checked) false ⟨#[], #[.slice none 0 0, .slice none 0 0, .slice none 0 0, .int .i64 0], []⟩ 8 (by kernel_rfl) (by kernel_rfl) (by kernel_rfl) (by kernel_rfl)) ?_
  intro W base args ds gs before hval0 hW hcnd _
  have hval : ∀ (j : Nat) t v, Try.f6.params[j]? = some t → args[j]? = some v → Value.okWide Try.prog W .any base t v := hval0
  have hW' := hW
  obtain ⟨p, q, hA0, hV, rfl, hfz, hnd⟩ := hW
  have hA : DataW.TrodAll enc Try.prog W 0 (fun _ => true) true Try.f6.params.toList args.toList ds p := hA0
  rw [Try.params6] at hA hval
  obtain ⟨v0, vs0, d0, ds0, p0, q0, hargs, rfl, rfl, h0, r0⟩ := trodAll_cons hA
  obtain ⟨v1, vs1, d1, ds1, p1, q1, rfl, rfl, rfl, h1, r1⟩ := trodAll_cons r0
  obtain ⟨v2, vs2, d2, ds2, p2, q2, rfl, rfl, rfl, h2, r2⟩ := trodAll_cons r1
  obtain ⟨v3, vs3, d3, ds3, p3, q3, rfl, rfl, rfl, h3, r3⟩ := trodAll_cons r2
  obtain ⟨rfl, rfl, rfl⟩ := trodAll_nil r3
  obtain rfl : args = #[v0, v1, v2, v3] := by cases args; simp_all
  obtain ⟨rfl, rfl⟩ := trodVars_none hV
  have k0 := h0
  have lt0 : ∀ x ∈ p0, x.block < W.heap.size := by obtain ⟨m, hm⟩ := k0; exact DataW.trod_lt m _ _ _ hm
  obtain ⟨a0, len0, cap0, rfl⟩ := okWide_slice Try.underlying54 (hval 0 54 v0 rfl rfl)
  obtain ⟨z0, l0, s0⟩ := open_bools' Try.underlying54 Try.underlying4 (by kernel_rfl) h0
  have k1 := h1
  have lt1 : ∀ x ∈ p1, x.block < W.heap.size := by obtain ⟨m, hm⟩ := k1; exact DataW.trod_lt m _ _ _ hm
  obtain ⟨a1, len1, cap1, rfl⟩ := okWide_slice Try.underlying54 (hval 1 54 v1 rfl rfl)
  obtain ⟨z1, l1, s1⟩ := open_bools' Try.underlying54 Try.underlying4 (by kernel_rfl) h1
  have k2 := h2
  have lt2 : ∀ x ∈ p2, x.block < W.heap.size := by obtain ⟨m, hm⟩ := k2; exact DataW.trod_lt m _ _ _ hm
  obtain ⟨a2, len2, cap2, rfl⟩ := okWide_slice Try.underlying55 (hval 2 55 v2 rfl rfl)
  obtain ⟨z2, l2, s2, w2⟩ := open_ints' Try.underlying55 Try.underlying3 (by kernel_rfl) h2
  have k3 := h3
  have lt3 : ∀ x ∈ p3, x.block < W.heap.size := by obtain ⟨m, hm⟩ := k3; exact DataW.trod_lt m _ _ _ hm
  obtain ⟨a3, rfl, rfl, rfl, w3⟩ := open_int Try.underlying3 (hval 3 3 v3 rfl rfl) h3
  clear hA0 hval0
  refine (order16_any a0 a1 a2 len0 cap0 len1 cap1 len2 cap2 a3 z0 z1 z2 W l0 s0 l1 s1 l2 s2).mono fun e W' ⟨he, bel⟩ => ?_
  subst he
  exact ⟨_, rfl, _, _, _, [], _, [], hW', trodAll_mk1 (shut_bool Try.underlying4 _), (trodAll_cons_mk (Below.trod Try.laidOut (by kernel_rfl) (of_decide_eq_true (by kernel_rfl)) k0 bel lt0) (trodAll_cons_mk (Below.trod Try.laidOut (by kernel_rfl) (of_decide_eq_true (by kernel_rfl)) k1 bel lt1) (trodAll_cons_mk (Below.trod Try.laidOut (by kernel_rfl) (of_decide_eq_true (by kernel_rfl)) k2 bel lt2) (trodAll_cons_mk (Below.trod Try.laidOut (by kernel_rfl) (of_decide_eq_true (by kernel_rfl)) k3 bel lt3) trodAll_mk0)))), rfl, bel.frame _, fun h => by cases h⟩

set_option maxRecDepth 100000 in
theorem CoderOrder_closed : joinedFacts Try.checked.prog 6 Try.f6 Rows.coderOrderSpec Rows.coderOrderRow = true := by
  unfold joinedFacts
  rw [closed_laid, closed_maps, closed_heard, closed_plain, closed_mayEnter, closed_lifts, closed_make]
  kernel_rfl

theorem CoderOrder_holds : Rows.CoderOrderSaid :=
  OpenClaim.holds_of_wide 6 Try.f6 rfl rfl rfl rfl rfl rfl rfl ⟨rfl, rfl, rfl, rfl, rfl⟩ rfl rfl rfl rfl rfl (by kernel_rfl) Try.func6 CoderOrder_closed
    (of_decide_eq_true (by kernel_rfl)) (by unfold Func.isWrapper; first | (rw [if_pos (by decide +kernel)]; kernel_rfl) | (rw [if_neg (by decide +kernel)]; exact ⟨rfl, rfl⟩))
    (fun os started H enc _ => CoderOrder_lifted os started H enc)
#print axioms CoderOrder_holds
end Go.Proofs.Yteokbedjcnfgiaa
