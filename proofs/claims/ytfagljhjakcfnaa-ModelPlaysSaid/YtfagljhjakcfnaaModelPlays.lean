/-
  For every width and every row of calls, the law ModelPlays returns true: the probabilities of all nodes of a tree agree with the reference's. No condition.
-/
import Derived.Test.YtfagljhjakcfnaaModelLaws
import Derived.Test.YtfagljhjakcfnaaFrame
namespace Go.Proofs.Ytfagljhjakcfnaa
open Go.RowKit Go.ChangeShapes Go.WideShapes Go.ChangeAt

/-- The program's chances and the reference's: alike but for place 0. -/
def Agree (ps qs : List Int) : Prop := ps.length = qs.length ∧ ∀ i, 1 ≤ i → ps.getD i 0 = qs.getD i 0
theorem Agree.at_ {ps qs : List Int} (h : Agree ps qs) (node : Int) : atN qs node = atN ps node := by
  unfold atN
  rw [h.1]
  split
  · exact (h.2 _ (by omega)).symm
  · rfl
theorem getD_set (l : List Int) (i j : Nat) (v : Int) : (l.set i v).getD j 0 = if i = j ∧ j < l.length then v else l.getD j 0 := by
  by_cases h : i = j
  · subst h
    by_cases h2 : i < l.length
    · simp [h2]
    · simp [h2]
  · simp [List.getElem?_set_ne h, h]
theorem Agree.turn {ps qs : List Int} (h : Agree ps qs) (node bit : Int) : Agree (turnN ps node bit) (turnN qs node bit) := by
  unfold turnN
  rw [h.1]
  split
  · rename_i hn
    refine ⟨by simp [h.1], fun i hi => ?_⟩
    rw [getD_set, getD_set, h.1, h.2 i hi, h.2 node.toNat (by omega)]
  · exact h
theorem Agree.new (n : Nat) (hn : 1 ≤ n) : Agree (List.replicate n 1024) (rnewN n) := by
  obtain ⟨m, rfl⟩ : ∃ m, n = m + 1 := ⟨n - 1, by omega⟩
  refine ⟨by simp [rnewN], fun i hi => ?_⟩
  obtain ⟨j, rfl⟩ : ∃ j, i = j + 1 := ⟨i - 1, by omega⟩
  simp [rnewN, List.replicate_succ]
def InRange (ps : List Int) : Prop := ∀ p ∈ ps, 0 ≤ p ∧ p < 65536
theorem InRange.turn {ps : List Int} (h : InRange ps) (node bit : Int) : InRange (turnN ps node bit) := by
  unfold turnN
  split
  · intro p hp
    rcases List.mem_or_eq_of_mem_set hp with hp | rfl
    · exact h p hp
    · have := adapt_lo (ps.getD node.toNat 0) bit; have := adapt_hi (ps.getD node.toNat 0) bit; omega
  · exact h

/-- What the loop keeps. -/
structure MPlay (W w : World) (bt bp rt rp : Nat) (bits : Int) (n : Nat) (ps qs : List Int) : Prop where
  m : MTree w bt bp ps
  r : RTree w rt rp bits qs
  range : InRange ps
  len : ps.length = n ∧ qs.length = n
  keeps : Keeps (fun k => W.heap.size ≤ k) W w
  fresh : W.heap.size ≤ bt ∧ W.heap.size ≤ bp ∧ W.heap.size ≤ rt ∧ W.heap.size ≤ rp
  apart : bt ≠ rp ∧ bp ≠ rt ∧ bp ≠ rp ∧ rp ≠ bt

theorem MPlay.drewN {W w : World} {bt bp rt rp : Nat} {bits : Int} {n : Nat} {ps qs : List Int} (h : MPlay W w bt bp rt rp bits n ps qs) (k : Nat) : MPlay W (w.drewN k) bt bp rt rp bits n ps qs :=
  ⟨h.m, h.r, h.range, h.len, h.keeps.drewN k, h.fresh, h.apart⟩

set_option maxRecDepth 100000 in
set_option maxHeartbeats 1600000 in
theorem plays15_any (bits : Int) (A : Option Addr) (n cap : Nat) (xs : List Value) (W : World) (hs : IsSl W A n cap 3 xs) (hf : ∀ i j, i < n → j < 3 → ∃ z, xs[i * 3 + j]? = some (.int .i64 z)) :
    Calls Try.prog 6 #[.int .i64 bits, .slice A n cap] W fun e w' => e = .returned (.bool true) ∧ Below W.heap.size W w' := by
  obtain ⟨_, hcap, hmax, hcell⟩ := hs
  have HF := Lib.hid hf
  have HC := Lib.hid hcell
  clear hf hcell
  by_cases hbig : 300 < n
  · go_enter Try.func6, Try.ntmps6
    go_wp2_with (go_at_call 24; refine (alive15_any _).mono ?_; rintro e w1 ⟨rfl, hk⟩)
    go_ret
    exact ⟨rfl, hk.below fun _ _ h => h⟩
  have HN := Lib.hid (new_any bits)
  have HR := Lib.hid (rnew_any bits)
  have hn1 : 1 ≤ 2 ^ szN bits := Nat.one_le_two_pow
  have hn2 := pow_le_256 (szN_hi bits)
  generalize (szN bits : Int) = bb at HR
  generalize 2 ^ szN bits = m at *
  go_enter Try.func6, Try.ntmps6
  go_wp2_with (go_at_call 24; refine (alive15_any _).mono ?_; rintro e w1 ⟨rfl, hk⟩)
  refine (HN.out _).mono ?_
  rintro e w2 ⟨rfl, ht, hk2⟩
  go_wp2_with fail
  refine (HR.out _).mono ?_
  rintro e w3 ⟨rfl, hr, hk3⟩
  go_wp2_with fail
  have key : MPlay W w3 (w1.heap.size + 1) w1.heap.size w2.heap.size (w2.heap.size + 1) bb m (List.replicate m 1024) (rnewN m) := by
    have s1 := hk.size
    have s2 := hk2.size
    have l1 := ht.1.lt
    have l2 := ht.2.1.lt
    refine ⟨ht.keeps hk3 (fun h => h) (fun h => h), hr, rep_range m, ⟨by simp, by simp [rnewN]; omega⟩, ?_, by omega, by omega⟩
    exact ((hk.trans hk2 (T := fun k => W.heap.size ≤ k) (fun _ h => h.elim) (fun _ _ h => h.elim)).trans hk3 (fun _ h => h) (fun _ _ h => h.elim))
  clear ht hr hk hk2 hk3
  have agr := Agree.new m hn1
  generalize w1.heap.size + 1 = bt at *
  generalize w1.heap.size = bp at *
  generalize w2.heap.size + 1 = rp at *
  generalize w2.heap.size = rt at *
  generalize List.replicate m (1024 : Int) = ps0 at key agr
  generalize rnewN m = qs0 at key agr
  have KEY := Lib.hid key
  have AGR := Lib.hid agr
  clear key agr
  go_loopw [8] (fun i wr => ∃ (k : Nat) (ps qs : List Int), k ≤ n ∧ i = .int .i64 k ∧ Agree ps qs ∧ MPlay W wr bt bp rt rp bb m ps qs) (fun i _ => n - (intOf i).toNat)
  case atStart => exact ⟨0, ps0, qs0, Nat.zero_le _, rfl, AGR.out, KEY.out⟩
  case round =>
    obtain ⟨k, ps, qs, hkn, rfl, agr, hM⟩ := hrel
    have AG := Lib.hid agr
    clear agr AGR KEY HN HR
    by_cases hlt : k < n
    · obtain ⟨b, off, rfl, hb, hc⟩ := HC.out (by omega)
      obtain ⟨z0, e0⟩ := HF.out k 0 hlt (by decide)
      obtain ⟨z1, e1⟩ := HF.out k 1 hlt (by decide)
      obtain ⟨z2, e2⟩ := HF.out k 2 hlt (by decide)
      have hcw : ∀ w', Keeps (fun k => W.heap.size ≤ k) W w' → w'.cell? ⟨b, off + k * 3, none⟩ = some (.int .i64 z0) ∧ w'.cell? ⟨b, off + k * 3 + 1, none⟩ = some (.int .i64 z1) ∧ w'.cell? ⟨b, off + k * 3 + 2, none⟩ = some (.int .i64 z2) := fun w' hk => by
        have hcc : ∀ i, i < n * 3 → w'.cell? ⟨b, off + i, none⟩ = xs[i]? := fun i hi => (hk.cell (p := ⟨b, off + i, none⟩) hb (by simp; exact hb)).trans (hc i hi)
        exact ⟨(hcc (k * 3) (by omega)).trans e0, (hcc (k * 3 + 1) (by omega)).trans e1, (hcc (k * 3 + 2) (by omega)).trans e2⟩
      clear e0 e1 e2 hc
      have HCW := Lib.hid hcw
      clear hcw
      obtain ⟨c0, c1, _⟩ := HCW.out wr hM.keeps
      go_wp2
      obtain ⟨mS, mh⟩ : ∃ S : World → Prop, ∀ w', S w' ↔ (w'.cell? ⟨b, off + k * 3, none⟩ = some (.int .i64 z0) ∧ w'.cell? ⟨b, off + k * 3 + 1, none⟩ = some (.int .i64 z1)) := ⟨_, fun _ => Iff.rfl⟩
      have mk0 : ∀ x : Memb mS, x.at_.cell? ⟨b, off + k * 3, none⟩ = some (.int .i64 z0) := fun x => ((mh _).1 x.is).1
      have mk1 : ∀ x : Memb mS, x.at_.cell? ⟨b, off + k * 3 + 1, none⟩ = some (.int .i64 z1) := fun x => ((mh _).1 x.is).2
      have mn : Nonempty (Memb mS) := ⟨⟨(wr).drew, (mh _).2 ⟨c0, c1⟩⟩⟩
      have mH := Lib.hid mh
      clear mh
      refine wp_region_mix [11] (InS mS) (by kernel_rfl) (by kernel_rfl) (InS.mk ((mH.out _).2 ⟨c0, c1⟩)) ?_
      refine wpMix_seg 11 (by kernel_rfl) (by decide) ?_
      simp only [List.take_succ_cons, List.take_zero, List.drop_succ_cons, List.drop_zero]
      repeat (go_big_quiet_step (fail))
      refine wpQuiet_nil ?_
      refine wpMix_eff (by kernel_rfl) ?_
      go_wp2_with fail
      refine (turn_any bt bp ps z0 z1 _ hM.m.drew (by rw [hM.len.1]; exact hn2) hM.range).mono ?_
      rintro e w4 ⟨rfl, ht4, hk4⟩
      go_wp2
      refine MixK.last (by kernel_rfl) ?_
      refine wpMix_nil ?_
      clear mk0 mk1 mn mH
      have hM4 : MPlay W w4 bt bp rt rp bb m (turnN ps z0 z1) qs := by
        obtain ⟨p1, p2, p3, p4⟩ := hM.apart
        have f := hM.fresh
        exact ⟨ht4, hM.r.drew.keeps hk4 (fun h => p2 h.symm) (fun h => p3 h.symm), hM.range.turn _ _, ⟨by rw [turnN_length]; exact hM.len.1, hM.len.2⟩, hM.keeps.drew.trans hk4 (fun _ h => h) (fun i _ h => by simp only [h]; exact f.2.1), hM.fresh, hM.apart⟩
      clear ht4 hk4 c0 c1
      have AG4 : Hid (Agree (turnN ps z0 z1) (turnN qs z0 z1)) := AG.out.turn z0 z1
      clear hM AG
      generalize turnN ps z0 z1 = ps4 at *
      obtain ⟨c0, c1, _⟩ := HCW.out w4 hM4.keeps
      go_wp2
      obtain ⟨mS, mh⟩ : ∃ S : World → Prop, ∀ w', S w' ↔ (w'.cell? ⟨b, off + k * 3, none⟩ = some (.int .i64 z0) ∧ w'.cell? ⟨b, off + k * 3 + 1, none⟩ = some (.int .i64 z1)) := ⟨_, fun _ => Iff.rfl⟩
      have mk0 : ∀ x : Memb mS, x.at_.cell? ⟨b, off + k * 3, none⟩ = some (.int .i64 z0) := fun x => ((mh _).1 x.is).1
      have mk1 : ∀ x : Memb mS, x.at_.cell? ⟨b, off + k * 3 + 1, none⟩ = some (.int .i64 z1) := fun x => ((mh _).1 x.is).2
      have mn : Nonempty (Memb mS) := ⟨⟨(w4).drew, (mh _).2 ⟨c0, c1⟩⟩⟩
      have mH := Lib.hid mh
      clear mh
      refine wp_region_mix [11] (InS mS) (by kernel_rfl) (by kernel_rfl) (InS.mk ((mH.out _).2 ⟨c0, c1⟩)) ?_
      refine wpMix_seg 11 (by kernel_rfl) (by decide) ?_
      simp only [List.take_succ_cons, List.take_zero, List.drop_succ_cons, List.drop_zero]
      repeat (go_big_quiet_step (fail))
      refine wpQuiet_nil ?_
      refine wpMix_eff (by kernel_rfl) ?_
      go_wp2_with fail
      refine (rturn_any rt rp bb qs z0 z1 _ hM4.r.drew (by rw [hM4.len.2]; exact hn2)).mono ?_
      rintro e w5 ⟨rfl, ht5, hk5⟩
      go_wp2
      refine MixK.last (by kernel_rfl) ?_
      refine wpMix_nil ?_
      clear mk0 mk1 mn mH
      have hM5 : MPlay W w5 bt bp rt rp bb m ps4 (turnN qs z0 z1) := by
        obtain ⟨p1, p2, p3, p4⟩ := hM4.apart
        have f := hM4.fresh
        exact ⟨hM4.m.drew.keeps hk5 (fun h => p1 h) (fun h => p3 h), ht5, hM4.range, ⟨hM4.len.1, by rw [turnN_length]; exact hM4.len.2⟩, hM4.keeps.drew.trans hk5 (fun _ h => h) (fun i _ h => by simp only [h]; exact f.2.2.2), hM4.fresh, hM4.apart⟩
      clear ht5 hk5 c0 c1 hM4
      generalize turnN qs z0 z1 = qs5 at *
      obtain ⟨c0, _, c2⟩ := HCW.out w5 hM5.keeps
      have at1 : ∀ z nq, Calls Try.prog 31 #[.pointer (some ⟨bt, 0, none⟩), .int .i64 z] (w5.drewN nq) fun e w' => e = .returned (.int .i64 (atN ps4 z)) ∧ w' = w5.drewN nq := fun z nq =>
        (at_any bt bp ps4 z (w5.drewN nq) (hM5.m.drewN nq) (by rw [hM5.len.1]; exact hn2) hM5.range).mono fun _ _ h => ⟨h.1, h.2.symm⟩
      have at2 : ∀ z nq, Calls Try.prog 32 #[.pointer (some ⟨rt, 0, none⟩), .int .i64 z] (w5.drewN nq) fun e w' => e = .returned (.int .i64 (atN ps4 z)) ∧ w' = w5.drewN nq := fun z nq => by
        rw [← AG4.out.at_ z]
        exact (rat_any rt rp bb qs5 z (w5.drewN nq) (hM5.r.drewN nq) (by rw [hM5.len.2]; exact hn2)).mono fun _ _ h => ⟨h.1, h.2.symm⟩
      have AT1 := Lib.hid at1
      have AT2 := Lib.hid at2
      clear at1 at2
      go_wp2
      go_quiet ((first | (go_at_call 31; exact Calls.quiet_of_same (AT1.out _ _)) | (go_at_call 32; exact Calls.quiet_of_same (AT2.out _ _))))
      go_wp2
      go_roundw
      case rel => exact ⟨k + 1, ps4, qs5, by omega, by go_num, AG4.out, hM5.drewN _⟩
      case measure => simp [intOf]; omega
    · have hc1 : wr.cell? ⟨rt, 1, none⟩ = some (.slice (some ⟨rp, 0, none⟩) m m) := by
        have := hM.r.1.cellD 1 _ rfl
        rwa [hM.len.2] at this
      have at1 : ∀ z v nq, atN ps z = v → Calls Try.prog 31 #[.pointer (some ⟨bt, 0, none⟩), .int .i64 z] (wr.drewN nq) fun e w' => e = .returned (.int .i64 v) ∧ w' = wr.drewN nq := fun z v nq hv =>
        (at_any bt bp ps z (wr.drewN nq) (hM.m.drewN nq) (by rw [hM.len.1]; exact hn2) hM.range).mono fun _ _ h => ⟨by rw [← hv]; exact h.1, h.2.symm⟩
      have at0 : ∀ nq, Calls Try.prog 31 #[.pointer (some ⟨bt, 0, none⟩), .int .i64 0] (wr.drewN nq) fun e w' => e = .returned (.int .i64 0) ∧ w' = wr.drewN nq := fun nq => at1 0 0 nq (by simp [atN])
      have atm : ∀ nq, Calls Try.prog 31 #[.pointer (some ⟨bt, 0, none⟩), .int .i64 m] (wr.drewN nq) fun e w' => e = .returned (.int .i64 0) ∧ w' = wr.drewN nq := fun nq => at1 m 0 nq (by unfold atN; rw [hM.len.1, if_neg (by omega)])
      have atl : ∀ nq, Calls Try.prog 31 #[.pointer (some ⟨bt, 0, none⟩), .int .i64 ((m : Int) - 1)] (wr.drewN nq) fun e w' => e = .returned (.int .i64 (atN ps ((m : Int) - 1))) ∧ w' = wr.drewN nq := fun nq => at1 _ _ nq rfl
      have atr : ∀ nq, Calls Try.prog 32 #[.pointer (some ⟨rt, 0, none⟩), .int .i64 ((m : Int) - 1)] (wr.drewN nq) fun e w' => e = .returned (.int .i64 (atN ps ((m : Int) - 1))) ∧ w' = wr.drewN nq := fun nq => by
        rw [← AG.out.at_ _]
        exact (rat_any rt rp bb qs _ (wr.drewN nq) (hM.r.drewN nq) (by rw [hM.len.2]; exact hn2)).mono fun _ _ h => ⟨h.1, h.2.symm⟩
      have fin : Below W.heap.size W wr := hM.keeps.below fun k hk h => by omega
      have A0 := Lib.hid at0
      have AM := Lib.hid atm
      have AL := Lib.hid atl
      have AR := Lib.hid atr
      clear at0 atm atl atr at1
      generalize atN ps ((m : Int) - 1) = x at *
      clear hM AG
      go_wp2
      go_quiet ((first | (go_at_call 31; with_reducible exact Calls.quiet_of_same (A0.out _)) | (go_at_call 31; with_reducible exact Calls.quiet_of_same (AM.out _)) | (go_at_call 31; with_reducible exact Calls.quiet_of_same (AL.out _)) | (go_at_call 32; exact Calls.quiet_of_same (AR.out _))))
      go_wp2
      go_ret
      exact ⟨rfl, fin.trans ⟨rfl, rfl, rfl, Nat.le_refl _, fun _ _ => rfl⟩⟩
theorem plays15_fields {xs : List Value} {n : Nat} {fs : Array Field} (hfs : fs.size = 3) (hty : ∀ (j : Nat) (f : Field), fs[j]? = some f → f.type = 3) {H : Type} {enc : TypeId × Value → H} {w : World} {base : Nat} {spare : Nat → Bool} {held : Bool}
    (h : ∀ i j f, i < n → fs[j]? = some f → ∃ v y m, xs[i * fs.size + j]? = some v ∧ DataW.trod enc Try.prog w base spare held m f.type [v] = some y) : ∀ i j, i < n → j < 3 → ∃ z, xs[i * 3 + j]? = some (.int .i64 z) := by
  intro i j hi hj
  have hj' : j < fs.size := by omega
  obtain ⟨v, y, m, h1, h2⟩ := h i j fs[j] hi (by simp [hj'])
  rw [hty j fs[j] (by simp [hj'])] at h2
  obtain ⟨z, hz, _⟩ := DataW.trod_int Try.underlying3 h2
  rw [hfs] at h1
  refine ⟨z, ?_⟩
  rw [h1]
  simpa using hz

set_option maxRecDepth 100000 in
theorem ModelPlays_lifted (os : Os) (started : os.Started) (H : Type) (enc : TypeId × Value → H) :
    ReturnsInHanded {} Try.checked os 6 .any (Rows.modelPlaysSpec.pre6 enc Try.prog Try.f6 Rows.modelPlaysRow.domain false) (Rows.modelPlaysSpec.post enc Try.prog Try.f6 false true false false) := by
  refine returnsInHanded_of_change (C := Try.checked) Try.own started (by kernel_rfl) Try.func6
    (ChangeSpec.witness6 (enc := enc) (C := Try.checked) false ⟨#[], #[.int .i64 0, .slice none 0 0], []⟩ 8 (by kernel_rfl) (by kernel_rfl) (by kernel_rfl) (by kernel_rfl)) ?_
  intro W base args ds gs before hval0 hW hcnd _
  have hval : ∀ (j : Nat) t v, Try.f6.params[j]? = some t → args[j]? = some v → Value.okWide Try.prog W .any base t v := hval0
  have hW' := hW
  obtain ⟨p, q, hA0, hV, rfl, hfz, hnd⟩ := hW
  have hA : DataW.TrodAll enc Try.prog W 0 (fun _ => true) true Try.f6.params.toList args.toList ds p := hA0
  rw [Try.params6] at hA hval
  obtain ⟨v0, vs0, d0, ds0, p0, q0, hargs, rfl, rfl, h0, r0⟩ := trodAll_cons hA
  obtain ⟨v1, vs1, d1, ds1, p1, q1, rfl, rfl, rfl, h1, r1⟩ := trodAll_cons r0
  obtain ⟨rfl, rfl, rfl⟩ := trodAll_nil r1
  obtain rfl : args = #[v0, v1] := by cases args; simp_all
  obtain ⟨rfl, rfl⟩ := trodVars_none hV
  have k0 := h0
  have lt0 : ∀ x ∈ p0, x.block < W.heap.size := by obtain ⟨m, hm⟩ := k0; exact DataW.trod_lt m _ _ _ hm
  obtain ⟨a0, rfl, rfl, rfl, w0⟩ := open_int Try.underlying3 (hval 0 3 v0 rfl rfl) h0
  have k1 := h1
  have lt1 : ∀ x ∈ p1, x.block < W.heap.size := by obtain ⟨m, hm⟩ := k1; exact DataW.trod_lt m _ _ _ hm
  obtain ⟨a1, len1, cap1, rfl⟩ := okWide_slice Try.underlying35 (hval 1 35 v1 rfl rfl)
  obtain ⟨z1, s1, f1⟩ := open_structs' Try.underlying35 Try.underlying42 (by kernel_rfl) (by kernel_rfl) (by decide) h1
  clear hA0 hval0
  refine (plays15_any a0 a1 len1 cap1 z1 W s1 (plays15_fields rfl (by intro j f hf; match j, hf with | 0, hf => (simp at hf; rw [← hf]) | 1, hf => (simp at hf; rw [← hf]) | 2, hf => (simp at hf; rw [← hf]) | j + 3, hf => simp at hf) f1)).mono fun e W' ⟨he, bel⟩ => ?_
  subst he
  exact ⟨_, rfl, _, _, _, [], _, [], hW', trodAll_mk1 (shut_bool Try.underlying4 _), (trodAll_cons_mk (Below.trod Try.laidOut (by kernel_rfl) (of_decide_eq_true (by kernel_rfl)) k0 bel lt0) (trodAll_cons_mk (Below.trod Try.laidOut (by kernel_rfl) (of_decide_eq_true (by kernel_rfl)) k1 bel lt1) trodAll_mk0)), rfl, bel.frame _, fun h => by cases h⟩

theorem ModelPlays_holds : Rows.ModelPlaysSaid :=
  OpenClaim.holds_of_wide 6 Try.f6 rfl rfl rfl rfl rfl rfl rfl ⟨rfl, rfl, rfl, rfl, rfl⟩ rfl rfl rfl rfl rfl (by kernel_rfl) Try.func6 (by kernel_rfl)
    (of_decide_eq_true (by kernel_rfl)) (by unfold Func.isWrapper; first | (rw [if_pos (by decide +kernel)]; kernel_rfl) | (rw [if_neg (by decide +kernel)]; exact ⟨rfl, rfl⟩))
    (fun os started H enc _ => ModelPlays_lifted os started H enc)
#print axioms ModelPlays_holds
end Go.Proofs.Ytfagljhjakcfnaa
