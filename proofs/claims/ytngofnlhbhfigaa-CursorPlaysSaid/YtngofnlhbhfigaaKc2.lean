/- The walks of a cursor's calls: program and put. -/
import Derived.Test.YtngofnlhbhfigaaKc
namespace Go.Proofs.Ytngofnlhbhfigaa
open Go.RowKit

theorem Room.prep {f c sector : Nat} : ∀ (j : Nat) (s : FS) (r m : Nat), Room s (m + j) → Room (prepF f c sector j s r).1 m
  | 0, s, r, m, h => h
  | j + 1, s, r, m, h => by
    unfold prepF
    split
    · split
      · exact h.less (by omega)
      · split
        · exact Room.prep j s (r + 1) m (h.less (by omega))
        · have he : Room (s.gerase f c r).1 (m + j) := Room.erase (by rw [Nat.add_assoc]; exact h) f c r
          split
          · exact he.less (by omega)
          · exact Room.prep j _ (r + 1) m he
    · exact h.less (by omega)
theorem KS.full_len {k : KS} (h : k.word.length = 8) (hn : k.n ≤ 8) : k.full.length = 8 := by
  unfold KS.full
  rw [splice_len _ _ _ (by rw [List.length_take]; show 0 + _ ≤ 8; omega)]; rfl
theorem Room.afterProg {f c : Nat} {s : FS} {k : KS} {m : Nat} (h : Room s (m + 264)) (hc : c ≤ 256) (hl : k.word.length = 8) (hn : k.n ≤ 8) : Room (progK f c s k).1 m := by
  have h1 : Room (prepK f c ((k.at_ - k.n) / 1024) s k).1 (m + 8) := Room.prep _ _ _ _ (h.less (by omega))
  unfold progK
  dsimp only
  split
  · exact h1.less (by omega)
  · exact Room.prog (by rw [KS.full_len hl hn]; exact h1) f c _

section
variable {w : World} {B : Nat} {L : FL} {s : FS} {cb q f c : Nat} {k : KS}
theorem KAt.recell {w' : World} {k' : KS} (h : KAt w B L s cb q f c k) (hk : Keeps (fun j => j = cb) w w') (hb : Blk w' cb (kcells q f c k') 114) (h1 : k'.word.length = 8) (h2 : ∀ z ∈ k'.word, 0 ≤ z ∧ z ≤ 255) (h3 : k'.n ≤ 8) (h4 : k'.n ≤ k'.at_) (h5 : k'.at_ ≤ 1024 * c) (h6 : k'.ready ≤ c) :
    KAt w' B L s cb q f c k' :=
  ⟨h.fl.keeps hk (fun j hj e => h.no (e ▸ hj)), h.hq, hb, h.no, h.lo, h1, h2, h3, h4, h5, h6, h.fc⟩
/-- The bytes that are held, as a cut of the cursor's word. -/
theorem KAt.held (h : KAt w B L s cb q f c k) : Bs w (some ⟨cb, 5, none⟩) k.n 8 (k.word.take k.n) :=
  ⟨by rw [List.length_take, h.len]; exact Nat.min_eq_left h.n8, h.n8, by decide, (fun e => by cases e), fun z hz => h.by_ z (List.mem_of_mem_take hz), fun _ => ⟨cb, 5, rfl, h.cell.lt, fun i hi => by
    have hn := h.n8
    rw [h.cell.cell, kcells_word h.len (by omega)]
    have : (k.word.take k.n).getD i 0 = k.word.getD i 0 := by simp [List.getD, List.getElem?_take, hi]
    rw [this]⟩⟩
end
theorem quiet_slice8 {P : Program} {S : World → Prop} {a a' : Act} {o : Oper} {K : Act → Prop} {t : TypeId} {x hx : Operand} {v hv u : Value} {d : Nat}
    (hm : ∀ w, (Instr.sliceAt t v none (some hv) none).run P w = .ok u w) (h : o.op = .slice t x none (some hx) none) (hd : o.dst = some d) (he : a.eval x = v) (hi : a.eval hx = hv) (ha : a.put (some d) u = a') (hk : K a') : o.quiet P a (InS S) K := by
  refine ⟨u, fun w hw => ?_, by rw [hd, ha]; exact hk⟩
  have e : (execOp a.eval o).run P w = .ok (.value u) w := by
    unfold execOp
    rw [h]
    simp only [Sem.run_bind, Sem.run_pure, Option.map_some, Option.map_none]
    rw [he, hi, hm w]; rfl
  unfold Oper.quietAt
  rw [e]
  exact ⟨rfl, rfl⟩
theorem run_slice8 (b o n : Nat) (hn : n ≤ 8) (w : World) : (Instr.sliceAt 112 (.pointer (some ⟨b, o, none⟩)) none (some (.int .i64 n)) none).run Try.prog w = .ok (.slice (some ⟨b, o, none⟩) n 8) w := by
  have h1 : Try.prog.underlying 112 = some (.array (Try.prog.arrayLen 112) (Try.prog.elem 112)) := by kernel_rfl
  have h2 : Try.prog.arrayLen 112 = 8 := by kernel_rfl
  have h3 : Try.prog.elem 112 = 5 := by kernel_rfl
  have hz : (sizeOf 5).run Try.prog w = .ok 1 w := by
    obtain ⟨i, hi, _, h1, _⟩ := info_parts Try.info5
    simp [sizeOf, hi, h1]
    kernel_rfl
  rw [run_sliceAt_array_h w 112 ⟨b, o, none⟩ h1 .i64 n (by omega) (by rw [h2]; omega), h3, hz, h2]
  simp [slicedAt, Addr.add]

set_option maxRecDepth 100000 in
set_option maxHeartbeats 1600000 in
theorem kprog_any (B : Nat) (L : FL) (s : FS) (cb q f c : Nat) (k : KS) (w : World) (h : KAt w B L s cb q f c k) (hr : Room s 264) :
    Calls Try.prog 93 #[.pointer (some ⟨cb, 0, none⟩)] w (KTurn w B L cb q f c (progK f c s k)) := by
  have hc9 : f + c ≤ 256 := by have := h.fc; have := h.fl.n9; omega
  have has := h.al
  have hna := h.na
  have hn8 := h.n8
  obtain ⟨fr, hfr⟩ : ∃ x, k.at_ - k.n = x := ⟨_, rfl⟩
  obtain ⟨sec, hsec⟩ : ∃ x, fr / 1024 = x := ⟨_, rfl⟩
  have PR := Lib.hid (fun w' (h' : KAt w' B L s cb q f c k) => kprep_any B L s cb q f c k sec w' h' (by omega) (hr.less (by omega)))
  have hpk : progK f c s k = if (prepK f c sec s k).2.2 ≠ 0 then ((prepK f c sec s k).1, { (prepK f c sec s k).2.1 with err := (prepK f c sec s k).2.2 }, (prepK f c sec s k).2.2)
      else (((prepK f c sec s k).1.gprog f c fr k.full).1, { (prepK f c sec s k).2.1 with err := ((prepK f c sec s k).1.gprog f c fr k.full).2 }, ((prepK f c sec s k).1.gprog f c fr k.full).2) := by
    unfold progK; rw [hfr, hsec]
  have hr8 : Room (prepK f c sec s k).1 8 := Room.prep _ _ _ _ (hr.less (by omega))
  have hk1 : (prepK f c sec s k).2.1.word = k.word ∧ (prepK f c sec s k).2.1.n = k.n := ⟨rfl, rfl⟩
  have hfl := KS.full_len h.len h.n8
  have hfu : splice (blankN 8) 0 (((k.word.take k.n)).take 8) = k.full := by rw [List.take_take, Nat.min_eq_right hn8]; rfl
  generalize prepK f c sec s k = p at *
  obtain ⟨s1, k1, e1⟩ := p
  simp only [] at hpk hk1 PR hr8
  rw [hpk]
  have i1 : IntKind.i64.wrap ((k.at_ : Int) - k.n) = fr := by rw [show (k.at_ : Int) - k.n = (fr : Int) by omega]; exact wrap_nat _ (by omega)
  have i2 : ((fr : Int) / 1024) = sec := by omega
  have fr9 : fr ≤ 262144 := by omega
  have HK1 := Lib.hid hk1
  have HR8 := Lib.hid hr8
  have H := Lib.hid h
  have c0 := H.out.cell.cellD 0 _ rfl
  have c1 := H.out.cell.cellD 1 _ rfl
  have c2 := H.out.cell.cellD 2 _ rfl
  have c13 := H.out.cell.cellD 13 _ (kcells_ready H.out.len)
  have c3 := H.out.cell.cellD 3 _ rfl
  have c4 := H.out.cell.cellD 4 _ rfl
  have HFU := Lib.hid hfu
  generalize k.full = full at *
  have HFL := Lib.hid hfl
  generalize k.at_ = a at *
  generalize hkn : k.n = n at *
  clear h hr hr8 hk1 hpk hfr hsec hfl hfu
  by_cases q1 : e1 = 0
  · rw [if_neg (by simpa using q1)]
    subst q1
    have d1 : decide ((0 : Int) = 0) = true := rfl
    go_enter Try.func93, Try.ntmps93
    go_wp2
    obtain ⟨mS, mh⟩ : ∃ S : World → Prop, ∀ w', S w' ↔ (w'.cell? ⟨cb, 3, none⟩ = some (.int .i64 a) ∧ w'.cell? ⟨cb, 4, none⟩ = some (.int .i64 n)) := ⟨_, fun _ => Iff.rfl⟩
    have mk0 : ∀ x : Memb mS, x.at_.cell? ⟨cb, 3, none⟩ = some (.int .i64 a) := fun x => ((mh _).1 x.is).1
    have mk1 : ∀ x : Memb mS, x.at_.cell? ⟨cb, 4, none⟩ = some (.int .i64 n) := fun x => ((mh _).1 x.is).2
    have mn : Nonempty (Memb mS) := ⟨⟨(w).drew, (mh _).2 ⟨c3, c4⟩⟩⟩
    have mH := Lib.hid mh
    clear mh
    refine wp_region_mix [] (InS mS) (by kernel_rfl) (by kernel_rfl) (InS.mk ((mH.out _).2 ⟨c3, c4⟩)) ?_
    refine wpMix_seg 10 (by kernel_rfl) (by decide) ?_
    simp only [List.take_succ_cons, List.take_zero, List.drop_succ_cons, List.drop_zero]
    repeat (go_big_quiet_step (fail))
    refine wpQuiet_nil ?_
    refine wpMix_nil ?_
    clear mk0 mk1 mn mH
    go_wp2_with fail
    refine (PR.out w.drew H.out.drew).mono ?_
    rintro e w1 ⟨rfl, L1, h1, k1⟩
    have H1 := Lib.hid h1
    have L1K := Lib.hid ((KLink.quiet L cb (Keeps.refl None w).drew).trans k1)
    clear h1 k1 H c0 c1 c2 c3 c4 c13 PR
    have x14 := H1.out.cell.cellD 14 _ (kcells_err H1.out.len)
    have z14 := H1.out.cell.frozen 14
    obtain ⟨w2, hw2⟩ : ∃ x, w1.setCell ⟨cb, 14, none⟩ (.int .i64 0) = x := ⟨_, rfl⟩
    have H2 := Lib.hid (hw2 ▸ H1.out.putErr 0)
    have L2K := Lib.hid (hw2 ▸ L1K.out.trans (KLink.put w1 L1 cb 14 (.int .i64 0)))
    have y14 := H2.out.cell.cellD 14 _ (kcells_err H2.out.len)
    simp only [] at y14
    clear L1K
    go_wp2_with fail
    refine (blank_any 8 w2).mono ?_
    rintro e w3 ⟨v3, rfl, o3, k3⟩
    obtain ⟨A3, cc, rfl, b3⟩ := slice_of_own o3
    obtain ⟨g, rfl, hg1, -, -, hg2, hg3, -, -⟩ := o3.at_ (k := 0) (by show 0 < 8; omega)
    have h8 : (blankN 8).length = 8 := rfl
    rw [h8] at o3 hg2 ⊢
    have O3 := Lib.hid o3
    have K3 := Lib.hid k3
    have H3 := Lib.hid (H2.out.later k3)
    have x0 := H3.out.cell.cellD 0 _ rfl
    have x1 := H3.out.cell.cellD 1 _ rfl
    have x2 := H3.out.cell.cellD 2 _ rfl
    have x4 := H3.out.cell.cellD 4 _ rfl
    have hel := H3.out.held
    obtain ⟨hk1a, hk1b⟩ := HK1.out
    simp only [] at x4 hel
    rw [hk1b] at x4
    rw [hk1a, hk1b] at hel
    have HEL := Lib.hid hel
    clear o3 k3 b3 hel h8 x14 z14 hw2 y14 H1
    go_wp2
    obtain ⟨mS, mh⟩ : ∃ S : World → Prop, ∀ w', S w' ↔ (w'.cell? ⟨cb, 4, none⟩ = some (.int .i64 n)) := ⟨_, fun _ => Iff.rfl⟩
    have mk0 : ∀ x : Memb mS, x.at_.cell? ⟨cb, 4, none⟩ = some (.int .i64 n) := fun x => ((mh _).1 x.is)
    have mn : Nonempty (Memb mS) := ⟨⟨(w3).drew, (mh _).2 (x4)⟩⟩
    have mH := Lib.hid mh
    clear mh
    refine wp_region_mix [9] (InS mS) (by kernel_rfl) (by kernel_rfl) (InS.mk ((mH.out _).2 (x4))) ?_
    refine wpMix_seg 9 (by kernel_rfl) (by decide) ?_
    simp only [List.take_succ_cons, List.take_zero, List.drop_succ_cons, List.drop_zero]
    repeat (first | go_big_quiet_step (fail) | (go_big_quiet_want; first | refine quiet_slice8 (run_slice8 cb 5 n hn8) rfl rfl rfl rfl (by simp only [Act.put, List.setIfInBounds_toArray, List.set_cons_succ, List.set_cons_zero]; rfl) ?_; go_big_quiet_on))
    refine wpQuiet_nil ?_
    refine wpMix_eff (by kernel_rfl) ?_
    go_wp2_with (with_reducible refine wpList_copy_bs (B := w2.heap.size) (g := g) (off := 0) (n := 8) (cap := cc) rfl rfl rfl rfl (by first | (intro _; rfl) | (intro h0; omega)) O3.out.drew HEL.out.drew (by omega) ?_)
    intro w4 o4 k4
    have K4 := Lib.hid ((K3.out.drew).trans k4 (T := None) (fun _ h => h) (fun i hi e => by omega))
    rw [HFU.out] at o4
    have O4 := Lib.hid o4
    clear o4 k4
    go_wp2
    refine MixK.last (by kernel_rfl) ?_
    refine wpMix_nil ?_
    clear mk0 mn mH
    have H4 := Lib.hid (H2.out.later K4.out)
    have y0 := H4.out.cell.cellD 0 _ rfl
    have y1 := H4.out.cell.cellD 1 _ rfl
    have y2 := H4.out.cell.cellD 2 _ rfl
    clear x0 x1 x2 x4
    go_wp2_with fail
    have fl8 := HFL.out
    refine (gprogram_any B L1 s1 q f c fr (some ⟨g, 0, none⟩) 8 cc full w4 H4.out.fl H4.out.hq hc9 (ownBs O4.out) (by have := HR8.out.st; omega) (fun b off _ e hS => by cases e; have := H2.out.fl.lt g (.inl hS); omega)).mono ?_
    rintro e w5 ⟨rfl, L5, t5⟩
    have H5 := Lib.hid (H4.out.turn t5)
    have L5K := Lib.hid ((L2K.out.trans (KLink.quiet L1 cb K4.out)).trans (KLink.turn cb t5))
    have z14 := H5.out.cell.frozen 14
    have x14 := H5.out.cell.cellD 14 _ (kcells_err H5.out.len)
    go_wp2
    go_ret
    exact ⟨rfl, L5, H5.out.putErr _, L5K.out.trans (KLink.put w5 L5 cb 14 _)⟩
  · rw [if_pos q1]
    have d1 : decide (e1 = 0) = false := decide_eq_false q1
    go_enter Try.func93, Try.ntmps93
    go_wp2
    obtain ⟨mS, mh⟩ : ∃ S : World → Prop, ∀ w', S w' ↔ (w'.cell? ⟨cb, 3, none⟩ = some (.int .i64 a) ∧ w'.cell? ⟨cb, 4, none⟩ = some (.int .i64 n)) := ⟨_, fun _ => Iff.rfl⟩
    have mk0 : ∀ x : Memb mS, x.at_.cell? ⟨cb, 3, none⟩ = some (.int .i64 a) := fun x => ((mh _).1 x.is).1
    have mk1 : ∀ x : Memb mS, x.at_.cell? ⟨cb, 4, none⟩ = some (.int .i64 n) := fun x => ((mh _).1 x.is).2
    have mn : Nonempty (Memb mS) := ⟨⟨(w).drew, (mh _).2 ⟨c3, c4⟩⟩⟩
    have mH := Lib.hid mh
    clear mh
    refine wp_region_mix [] (InS mS) (by kernel_rfl) (by kernel_rfl) (InS.mk ((mH.out _).2 ⟨c3, c4⟩)) ?_
    refine wpMix_seg 10 (by kernel_rfl) (by decide) ?_
    simp only [List.take_succ_cons, List.take_zero, List.drop_succ_cons, List.drop_zero]
    repeat (go_big_quiet_step (fail))
    refine wpQuiet_nil ?_
    refine wpMix_nil ?_
    clear mk0 mk1 mn mH
    go_wp2_with fail
    refine (PR.out w.drew H.out.drew).mono ?_
    rintro e w1 ⟨rfl, L1, h1, k1⟩
    have H1 := Lib.hid h1
    have x14 := H1.out.cell.cellD 14 _ (kcells_err H1.out.len)
    have z14 := H1.out.cell.frozen 14
    go_wp2
    go_ret
    exact ⟨rfl, L1, H1.out.putErr e1, ((KLink.quiet L cb (Keeps.refl None w).drew).trans k1).trans (KLink.put w1 L1 cb 14 _)⟩

section
variable {f c : Nat} {s : FS} {k : KS} {z : Int}
theorem putK_free (h : k.n + 1 < 8) : putK f c s k z = (s, k.got z, 0) := if_pos h
theorem putK_full (h : ¬ k.n + 1 < 8) : putK f c s k z = if (progK f c s (k.got z)).2.2 = 0 then ((progK f c s (k.got z)).1, { (progK f c s (k.got z)).2.1 with n := 0 }, 0) else progK f c s (k.got z) := if_neg h
end
theorem set_byte {l : List Int} (h : ∀ z ∈ l, 0 ≤ z ∧ z ≤ 255) {z : Int} (hz : 0 ≤ z ∧ z ≤ 255) (i : Nat) : ∀ y ∈ l.set i z, 0 ≤ y ∧ y ≤ 255 := fun y hy => by
  rcases List.mem_or_eq_of_mem_set hy with hy | rfl
  · exact h y hy
  · exact hz
set_option maxRecDepth 100000 in
set_option maxHeartbeats 1600000 in
theorem kput_any (B : Nat) (L : FL) (s : FS) (cb q f c : Nat) (k : KS) (z : Int) (w : World) (h : KAt w B L s cb q f c k) (h7 : k.n < 8) (ha : k.at_ + 1 ≤ 1024 * c) (hz : 0 ≤ z ∧ z ≤ 255) (hr : Room s 264) :
    Calls Try.prog 92 #[.pointer (some ⟨cb, 0, none⟩), .int .u8 z] w (KTurn w B L cb q f c (putK f c s k z)) := by
  have hc9 : f + c ≤ 256 := by have := h.fc; have := h.fl.n9; omega
  have hna := h.na
  have H := Lib.hid h
  have HR := Lib.hid hr
  have g1 := h.put (kset_word h.len h7 z) (by show (k.word.set k.n z).length = 8; rw [List.length_set]; exact h.len) (set_byte h.by_ hz k.n) h.n8 h.na h.al h.rc
  have lk1 := KLink.put w L cb (5 + k.n) (.int .u8 z)
  have PF := Lib.hid (fun hh => putK_free (f := f) (c := c) (s := s) (k := k) (z := z) hh)
  have PU := Lib.hid (fun hh => putK_full (f := f) (c := c) (s := s) (k := k) (z := z) hh)
  have PG := Lib.hid (fun w' (h' : KAt w' B L s cb q f c (k.got z)) => kprog_any B L s cb q f c (k.got z) w' h' hr)
  obtain ⟨p, hp⟩ : ∃ p, putK f c s k z = p := ⟨_, rfl⟩
  rw [hp] at PF PU ⊢
  clear hp
  obtain ⟨a, n, wd, r, er⟩ := k
  simp only [] at hna h7 ha g1 lk1
  have c4 := h.cell.cellD 4 _ rfl
  simp only [] at c4
  have zw := h.cell.frozen (5 + n)
  have cw := h.cell.cellD (5 + n) _ (kcells_word h.len h7)
  simp only [] at cw
  obtain ⟨n1, hn1⟩ : ∃ x, n + 1 = x := ⟨_, rfl⟩
  obtain ⟨a1, ha1⟩ : ∃ x, a + 1 = x := ⟨_, rfl⟩
  have i1 : IntKind.i64.wrap ((n : Int) + 1) = n1 := by rw [show (n : Int) + 1 = (n1 : Int) by omega]; exact wrap_nat _ (by omega)
  have i2 : IntKind.i64.wrap ((a : Int) + 1) = a1 := by rw [show (a : Int) + 1 = (a1 : Int) by omega]; exact wrap_nat _ (by omega)
  clear h hr
  go_enter Try.func92, Try.ntmps92
  go_wp2
  obtain ⟨mS, mh⟩ : ∃ S : World → Prop, ∀ w', S w' ↔ (w'.cell? ⟨cb, 4, none⟩ = some (.int .i64 n)) := ⟨_, fun _ => Iff.rfl⟩
  have mk0 : ∀ x : Memb mS, x.at_.cell? ⟨cb, 4, none⟩ = some (.int .i64 n) := fun x => ((mh _).1 x.is)
  have mn : Nonempty (Memb mS) := ⟨⟨(w).drew, (mh _).2 (c4)⟩⟩
  have mH := Lib.hid mh
  clear mh
  refine wp_region_mix [9] (InS mS) (by kernel_rfl) (by kernel_rfl) (InS.mk ((mH.out _).2 (c4))) ?_
  refine wpMix_seg 9 (by kernel_rfl) (by decide) ?_
  simp only [List.take_succ_cons, List.take_zero, List.drop_succ_cons, List.drop_zero]
  repeat (go_big_quiet_step (fail))
  refine wpQuiet_nil ?_
  refine wpMix_eff (by kernel_rfl) ?_
  go_wp2
  refine MixK.last (by kernel_rfl) ?_
  refine wpMix_nil ?_
  clear mk0 mn mH
  have G1 := Lib.hid g1.drew
  have LK1 := Lib.hid (lk1.trans (KLink.quiet L cb (Keeps.refl None (w.setCell ⟨cb, 5 + n, none⟩ (.int .u8 z))).drew))
  obtain ⟨w1, hw1⟩ : ∃ x, (w.setCell ⟨cb, 5 + n, none⟩ (.int .u8 z)).drew = x := ⟨_, rfl⟩
  rw [hw1] at G1 LK1
  rw [hw1]
  clear g1 lk1 hw1 zw cw c4 H
  have x3 := G1.out.cell.cellD 3 _ rfl
  have x4 := G1.out.cell.cellD 4 _ rfl
  have z3 := G1.out.cell.frozen 3
  have z4 := G1.out.cell.frozen 4
  simp only [] at x3 x4
  have g3 : KAt ((w1.setCell ⟨cb, 4, none⟩ (.int .i64 n1)).setCell ⟨cb, 3, none⟩ (.int .i64 a1)) B L s cb q f c { at_ := a1, n := n1, word := wd.set n z, ready := r, err := er } :=
    G1.out.recell (((Keeps.self cb w1).put 4 _).put 3 _) (show Blk _ cb _ _ from (G1.out.cell.set 4 (.int .i64 n1)).set 3 (.int .i64 a1)) G1.out.len G1.out.by_ (by show n1 ≤ 8; omega) (by show n1 ≤ a1; omega) (by show a1 ≤ 1024 * c; omega) G1.out.rc
  have G3 := Lib.hid g3
  have L3K := Lib.hid ((LK1.out.trans (KLink.put w1 L cb 4 (.int .i64 n1))).trans (KLink.put _ L cb 3 (.int .i64 a1)))
  subst hn1 ha1
  clear g3 G1 LK1
  by_cases q1 : n + 1 < 8
  · have d1 : decide (((n + 1 : Nat) : Int) < 8) = true := decide_eq_true (by omega)
    have HP := Lib.hid (PF.out q1)
    clear PF PU PG
    have e : ({ at_ := a, n := n, word := wd, ready := r, err := er } : KS).got z = { at_ := a + 1, n := n + 1, word := wd.set n z, ready := r, err := er } := rfl
    rw [e] at HP
    clear e
    generalize n + 1 = n1 at *
    generalize a + 1 = a1 at *
    go_wp2
    go_ret
    rw [HP.out]
    exact ⟨rfl, L, G3.out, L3K.out⟩
  · have d1 : decide (((n + 1 : Nat) : Int) < 8) = false := decide_eq_false (by omega)
    have HP := Lib.hid (PU.out q1)
    have e : ({ at_ := a, n := n, word := wd, ready := r, err := er } : KS).got z = { at_ := a + 1, n := n + 1, word := wd.set n z, ready := r, err := er } := rfl
    rw [e] at PG HP
    clear PU PF e
    generalize n + 1 = n1 at *
    generalize a + 1 = a1 at *
    generalize progK f c s { at_ := a1, n := n1, word := wd.set n z, ready := r, err := er } = pp at *
    obtain ⟨s2, k2, e2⟩ := pp
    simp only [] at PG HP
    go_wp2_with fail
    refine (PG.out _ G3.out).mono ?_
    rintro e w4 ⟨rfl, L4, h4, l4⟩
    have H4 := Lib.hid h4
    have L4K := Lib.hid (L3K.out.trans l4)
    simp only [] at H4
    have y4 := H4.out.cell.cellD 4 _ rfl
    have zz := H4.out.cell.frozen 4
    clear h4 l4 x3 x4 z3 z4
    by_cases q2 : e2 = 0
    · subst q2
      rw [if_pos rfl] at HP
      have dd : decide ((0 : Int) = 0) = true := rfl
      go_wp2
      go_ret
      rw [HP.out]
      exact ⟨rfl, L4, H4.out.put (kset_n 0) H4.out.len H4.out.by_ (Nat.zero_le _) (Nat.zero_le _) H4.out.al H4.out.rc, L4K.out.trans (KLink.put w4 L4 cb 4 _)⟩
    · rw [if_neg q2] at HP
      have dd : decide (e2 = 0) = false := decide_eq_false q2
      go_wp2
      go_ret
      rw [HP.out]
      exact ⟨rfl, L4, H4.out, L4K.out⟩
end Go.Proofs.Ytngofnlhbhfigaa
