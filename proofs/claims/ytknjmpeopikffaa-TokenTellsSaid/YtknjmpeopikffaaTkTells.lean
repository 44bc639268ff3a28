/-
  For every row of tokens, the law TokenTells returns true: the program and the reference tell alike which tokens may be, what they make, and which bytes they are packed in. No condition.
-/
import Derived.Test.YtknjmpeopikffaaTkArg
import Derived.Test.YtknjmpeopikffaaTkOnly
import Derived.Test.YtknjmpeopikffaaTkRef
import Derived.Test.YtknjmpeopikffaaTkRPack
import Derived.Test.YtknjmpeopikffaaMix2
namespace Go.Proofs.Ytknjmpeopikffaa
open Go.RowKit Go.ChangeShapes Go.WideShapes Go.ChangeAt

theorem run_append_toks {w : World} {B : Nat} {v : Value} {ts ns : List Tok} {A : Option Addr} {m c : Nat} (hown : OwnT w B v ts) (hs : Ts w A m c ns) (hlen : ts.length + m ≤ 1000000) (hB : B ≤ w.heap.size) :
    ∃ v' w', (Builtin.append_ #[49, 49] 49 #[v, .slice A m c]).run Try.prog w = .ok v' w' ∧ OwnT w' B v' (ts ++ ns) ∧ Keeps (fun k => v.ownBlock = some k) w w' := by
  obtain ⟨i, hi, hz0, hz1, hz2⟩ := info_parts Try.info43
  have hnl := hs.len
  cases A with
  | none =>
    obtain ⟨rfl, rfl⟩ := hs.nil rfl
    have e : ns = [] := List.eq_nil_of_length_eq_zero hs.len
    subst e
    exact ⟨v, w, run_append_owned_none (P := Try.prog) w B 49 49 43 i 3 Try.underlying49 hi v _ _ hown, by rw [List.append_nil]; exact hown, Keeps.refl _ _⟩
  | some a =>
    have hcells : ∀ j u, (tcells ns)[j]? = some u → w.cell? (a.add j) = some u := by
      intro j u hu
      have hj : j < (tcells ns).length := (List.getElem?_eq_some_iff.1 hu).1
      rw [tcells_length] at hj
      obtain ⟨k, r, rfl, hr⟩ : ∃ k r, j = k * 3 + r ∧ r < 3 := ⟨j / 3, j % 3, by omega, by omega⟩
      have hk : k < ns.length := by omega
      obtain ⟨b, off, e, _, hc⟩ := hs.at_ (by omega)
      cases e
      have e2 : (⟨b, off, none⟩ : Addr).add (k * 3 + r) = ⟨b, off + (k * 3 + r), none⟩ := by unfold Addr.add; split <;> simp_all
      rw [e2, ← hu, tcells_get ns k ns[k] (List.getElem?_eq_getElem hk) r hr]
      obtain ⟨c0, c1, c2⟩ := hc k ns[k] (List.getElem?_eq_getElem hk)
      obtain rfl | rfl | rfl : r = 0 ∨ r = 1 ∨ r = 2 := by omega
      · exact c0
      · rw [← Nat.add_assoc]; exact c1
      · rw [← Nat.add_assoc]; exact c2
    have hplain : ∀ u ∈ tcells ns, u = u := fun _ _ => rfl
    obtain ⟨v', w', hr, ho, hg, _⟩ := run_append_own (P := Try.prog) w B 49 49 43 i (.agg #[.int .i64 0, .int .i64 0, .int .u8 0]) 3 24 Try.underlying49 hi hz0 hz1 hz2 rfl (by decide) v ts.length (tcells ts) hown a m c (tcells ns) (by rw [tcells_length, hnl]) hcells
      (by
        intro u hu
        clear hcells hplain hs hnl
        induction ns with
        | nil => simp [tcells] at hu
        | cons t ns ih =>
          simp only [tcells, List.mem_append] at hu
          rcases hu with hu | hu
          · simp [tcell] at hu; rcases hu with rfl | rfl | rfl <;> rfl
          · exact ih hu) (by unfold maxLen; omega) (by omega) hB
    refine ⟨v', w', hr, ?_, (Keeps.refl _ w).grown hg (fun k hk _ => hk)⟩
    unfold OwnT
    rw [List.length_append, tcells_append, hnl]
    exact ho
theorem wpList_append_toks {ops : Array Oper} {rest : List Oper} {o : Oper} {a : Act} {Q : Exit → Act → World → Prop} {s x : Operand} {w : World} {B : Nat} {v : Value} {ts ns : List Tok} {A : Option Addr} {m c : Nat}
    (hown : OwnT w B v ts) (hs : Ts w A m c ns) (hlen : ts.length + m ≤ 1000000) (hB : B ≤ w.heap.size) (hg : o.guard = none) (hty : o.type = 49) (ho : o.op = .call { callee := .builtin .append, args := #[s, x], argTypes := #[49, 49] }) (h1 : a.eval s = v) (h2 : a.eval x = .slice A m c)
    (h : ∀ v' w', OwnT w' B v' (ts ++ ns) → Keeps (fun k => v.ownBlock = some k) w w' → wpList Try.prog ops Q rest (a.put o.dst v') w') : wpList Try.prog ops Q (o :: rest) a w := by
  obtain ⟨v', w', hr, h3, h4⟩ := run_append_toks hown hs hlen hB
  exact wpList_append_run hr hg hty ho h1 h2 (h v' w' h3 h4)
theorem few19_any (A : Option Addr) (n c : Nat) (w : World) (hn : n ≤ 9223372036854775807) : Calls Try.prog 28 #[.slice A n c] w fun e w' => e = .returned (.bool (decide (n ≤ 300))) ∧ w = w' := by
  by_cases h : n ≤ 300
  · have d1 : decide ((n : Int) ≤ 300) = true := decide_eq_true (by omega)
    have d2 : decide (n ≤ 300) = true := decide_eq_true h
    rw [d2]
    go_enter Try.func28, Try.ntmps28
    go_wp2
    go_ret
    exact ⟨rfl, rfl⟩
  · have d1 : decide ((n : Int) ≤ 300) = false := decide_eq_false (by omega)
    have d2 : decide (n ≤ 300) = false := decide_eq_false h
    rw [d2]
    go_enter Try.func28, Try.ntmps28
    go_wp2
    go_ret
    exact ⟨rfl, rfl⟩
set_option maxRecDepth 100000 in
set_option maxHeartbeats 3200000 in
theorem tells19_any (A : Option Addr) (L cap : Nat) (ts : List Tok) (W : World) (h : Ts W A L cap ts) :
    Calls Try.prog 6 #[.slice A L cap] W fun e w' => e = .returned (.bool true) ∧ Below W.heap.size W w' := by
  have hle := h.le
  have hmx := h.max
  have HL := Lib.hid h.len
  have HT := Lib.hid h
  clear h
  have FEW := Lib.hid (fun w => few19_any A L cap w (by omega))
  go_enter Try.func6, Try.ntmps6
  go_wp2_with fail
  refine (alive19_any W).mono ?_
  rintro e w1 ⟨rfl, k1⟩
  have K1 := Lib.hid k1
  clear k1
  by_cases hf : L ≤ 300
  · rw [decide_eq_true hf] at FEW
    go_wp2_with fail
    refine (FEW.out _).mono ?_
    rintro e w' ⟨rfl, rfl⟩
    go_wp2_with (at_builtin; refine Hid.out ?_)
    refine Lib.hid ?_
    refine wpList_append_toks (ts := []) (B := w1.heap.size) (OwnT.nil _ _) (HT.out.later K1.out) (by simp; omega) (Nat.le_refl _) rfl rfl rfl rfl rfl ?_
    rw [List.nil_append]
    intro v2 w2 o2 k2
    obtain ⟨A2, c2, rfl, t2, -⟩ := o2.shape HT.out.wf
    rw [HL.out] at t2 ⊢
    have K12 : Hid (Keeps None w1 w2) := k2.mono (fun _ _ e => by simp [Value.ownBlock] at e)
    have K2 := Lib.hid (K1.out.trans K12.out (T := None) (fun _ h => h) (fun _ _ h => h))
    have T2 := Lib.hid t2
    have H2 := Lib.hid (HT.out.later K2.out)
    have l2 := t2.le
    have m2 := t2.max
    clear o2 k2 t2 K12
    obtain ⟨rb, hrb⟩ : ∃ x, rightB ts 0 = x := ⟨_, rfl⟩
    obtain ⟨pl, hpl⟩ : ∃ x, plainL ts = x := ⟨_, rfl⟩
    obtain ⟨pk, hpk⟩ : ∃ x, packL ts = x := ⟨_, rfl⟩
    have RB := Lib.hid hrb
    have PL := Lib.hid hpl
    have PK := Lib.hid hpk
    obtain ⟨sp, hsp⟩ : ∃ x, strOf pl = x := ⟨_, rfl⟩
    obtain ⟨sk, hsk⟩ : ∃ x, strOf pk = x := ⟨_, rfl⟩
    have SP := Lib.hid hsp
    have SK := Lib.hid hsk
    obtain ⟨np, hnp⟩ : ∃ x, pl.length = x := ⟨_, rfl⟩
    obtain ⟨nk, hnk⟩ : ∃ x, pk.length = x := ⟨_, rfl⟩
    have NP := Lib.hid hnp
    have NK := Lib.hid hnk
    have qp : (sp.toList == sp.toList) = true := by simp
    have qk : (sk.toList == sk.toList) = true := by simp
    have qr : (rb == rb) = true := by simp
    clear hrb hpl hpk hsp hsk hnp hnk
    go_wp2
    obtain ⟨mS, mh⟩ : ∃ S : World → Prop, ∀ w', S w' ↔ (True) := ⟨_, fun _ => Iff.rfl⟩
    have mn : Nonempty (Memb mS) := ⟨⟨(w2).drew, (mh _).2 trivial⟩⟩
    have mH := Lib.hid mh
    clear mh
    refine wp_region_mix2 [1, 3, 7, 10, 16, 19] (InS mS) (by kernel_rfl) (by kernel_rfl) (InS.mk ((mH.out _).2 trivial)) ?_
    refine wpMix2_seg 1 (InS mS) (by kernel_rfl) (by decide) (cl_base [] rfl (by kernel_rfl)) ?_
    simp only [List.take_succ_cons, List.take_zero, List.drop_succ_cons, List.drop_zero]
    repeat (go_big_quiet_step (fail))
    refine wpQuiet_nil ?_
    refine wpMix2_eff (by kernel_rfl) ?_
    go_wp2_with fail
    refine (tkright_any A2 L c2 _ _ T2.out.drew).mono ?_
    rw [RB.out]
    rintro e w3 ⟨rfl, k3⟩
    have T3 := Lib.hid (T2.out.drew.later k3)
    have H3 := Lib.hid (H2.out.drew.later k3)
    have K3 := Lib.hid (K2.out.drew.trans k3 (T := None) (fun _ h => h) (fun _ _ h => h))
    clear k3
    go_wp2
    refine MixK2.on (cls_base (InS.mk ((mH.out _).2 trivial))) ?_
    refine wpMix2_seg 1 (InS mS) (by kernel_rfl) (by decide) (cl_base [] rfl (by kernel_rfl)) ?_
    simp only [List.take_succ_cons, List.take_zero, List.drop_succ_cons, List.drop_zero]
    repeat (go_big_quiet_step (fail))
    refine wpQuiet_nil ?_
    refine wpMix2_eff (by kernel_rfl) ?_
    go_wp2_with fail
    refine (rtright_any A L cap _ _ H3.out).mono ?_
    rw [RB.out]
    rintro e w4 ⟨rfl, k4⟩
    have T4 := Lib.hid (T3.out.later k4)
    have H4 := Lib.hid (H3.out.later k4)
    have K4 := Lib.hid (K3.out.trans k4 (T := None) (fun _ h => h) (fun _ _ h => h))
    clear k4
    go_wp2
    refine MixK2.on (cls_base (InS.mk ((mH.out _).2 trivial))) ?_
    refine wpMix2_seg 3 (InS mS) (by kernel_rfl) (by decide) (cl_base [] rfl (by kernel_rfl)) ?_
    simp only [List.take_succ_cons, List.take_zero, List.drop_succ_cons, List.drop_zero]
    repeat (go_big_quiet_step (fail))
    refine wpQuiet_nil ?_
    refine wpMix2_eff (by kernel_rfl) ?_
    go_wp2_with fail
    refine (tkplain_any A2 L c2 _ _ T4.out).mono ?_
    rw [PL.out]
    rintro e w5 ⟨v5, rfl, o5, k5⟩
    obtain ⟨A5, c5, rfl, b5, -⟩ := o5.shape
    rw [NP.out] at b5 ⊢
    have B5 := Lib.hid b5
    have T5 := Lib.hid (T4.out.later k5)
    have H5 := Lib.hid (H4.out.later k5)
    have K5 := Lib.hid (K4.out.trans k5 (T := None) (fun _ h => h) (fun _ _ h => h))
    clear k5 o5 b5
    go_wp2
    obtain ⟨mL8S, mL8h⟩ : ∃ S : World → Prop, ∀ w', S w' ↔ (((convert 32 9 (.slice A5 np c5)).run Try.prog w' = .ok (.string sp) w')) := ⟨_, fun _ => Iff.rfl⟩
    have mL8k0 : ∀ x : Memb mL8S, (convert 32 9 (.slice A5 np c5)).run Try.prog x.at_ = .ok (.string sp) x.at_ := fun x => ((mL8h _).1 x.is)
    have mL8n : Nonempty (Memb mL8S) := ⟨⟨_, (mL8h _).2 (SP.out ▸ run_str B5.out)⟩⟩
    have mL8H := Lib.hid mL8h
    clear mL8h
    refine MixK2.late (D := InS mL8S) (x := 8) (by kernel_rfl) (cls_cons (InS.mk ((mL8H.out _).2 (SP.out ▸ run_str B5.out))) (cls_base (InS.mk ((mH.out _).2 trivial)))) ?_
    refine wpMix2_seg 1 (InS mL8S) (by kernel_rfl) (by decide) (cl_one rfl) ?_
    simp only [List.take_succ_cons, List.take_zero, List.drop_succ_cons, List.drop_zero]
    repeat (first | go_big_quiet_step (fail) | (go_big_quiet_want; first | refine quiet_conv mL8k0 rfl rfl rfl (by simp only [Act.put, List.setIfInBounds_toArray, List.set_cons_succ, List.set_cons_zero]; rfl) ?_; go_big_quiet_on))
    refine wpQuiet_nil ?_
    refine wpMix2_seg 1 (InS mS) (by kernel_rfl) (by decide) (cl_base [8] rfl (by kernel_rfl)) ?_
    simp only [List.take_succ_cons, List.take_zero, List.drop_succ_cons, List.drop_zero]
    repeat (first | go_big_quiet_step (fail) | (go_big_quiet_want; first | refine quiet_conv mL8k0 rfl rfl rfl (by simp only [Act.put, List.setIfInBounds_toArray, List.set_cons_succ, List.set_cons_zero]; rfl) ?_; go_big_quiet_on))
    refine wpQuiet_nil ?_
    refine wpMix2_eff (by kernel_rfl) ?_
    go_wp2_with fail
    refine (rtplain_any A L cap _ _ H5.out).mono ?_
    rw [PL.out]
    rintro e w6 ⟨v6, rfl, o6, k6⟩
    obtain ⟨A6, c6, rfl, b6, -⟩ := o6.shape
    rw [NP.out] at b6 ⊢
    have B6 := Lib.hid b6
    have B56 := Lib.hid (B5.out.keeps k6 (fun _ _ _ _ _ h => h))
    have T6 := Lib.hid (T5.out.later k6)
    have H6 := Lib.hid (H5.out.later k6)
    have K6 := Lib.hid (K5.out.trans k6 (T := None) (fun _ h => h) (fun _ _ h => h))
    clear k6 o6 b6
    go_wp2
    obtain ⟨mL11S, mL11h⟩ : ∃ S : World → Prop, ∀ w', S w' ↔ (((convert 32 9 (.slice A6 np c6)).run Try.prog w' = .ok (.string sp) w')) := ⟨_, fun _ => Iff.rfl⟩
    have mL11k0 : ∀ x : Memb mL11S, (convert 32 9 (.slice A6 np c6)).run Try.prog x.at_ = .ok (.string sp) x.at_ := fun x => ((mL11h _).1 x.is)
    have mL11n : Nonempty (Memb mL11S) := ⟨⟨_, (mL11h _).2 (SP.out ▸ run_str B6.out)⟩⟩
    have mL11H := Lib.hid mL11h
    clear mL11h
    refine MixK2.late (D := InS mL11S) (x := 11) (by kernel_rfl) (cls_cons (InS.mk ((mL11H.out _).2 (SP.out ▸ run_str B6.out))) (cls_cons (InS.mk ((mL8H.out _).2 (SP.out ▸ run_str B56.out))) (cls_base (InS.mk ((mH.out _).2 trivial))))) ?_
    refine wpMix2_seg 1 (InS mL11S) (by kernel_rfl) (by decide) (cl_one rfl) ?_
    simp only [List.take_succ_cons, List.take_zero, List.drop_succ_cons, List.drop_zero]
    repeat (first | go_big_quiet_step (fail) | (go_big_quiet_want; first | refine quiet_conv mL8k0 rfl rfl rfl (by simp only [Act.put, List.setIfInBounds_toArray, List.set_cons_succ, List.set_cons_zero]; rfl) ?_; go_big_quiet_on | refine quiet_conv mL11k0 rfl rfl rfl (by simp only [Act.put, List.setIfInBounds_toArray, List.set_cons_succ, List.set_cons_zero]; rfl) ?_; go_big_quiet_on))
    refine wpQuiet_nil ?_
    refine wpMix2_seg 4 (InS mS) (by kernel_rfl) (by decide) (cl_base [11, 8] rfl (by kernel_rfl)) ?_
    simp only [List.take_succ_cons, List.take_zero, List.drop_succ_cons, List.drop_zero]
    repeat (first | go_big_quiet_step (fail) | (go_big_quiet_want; first | refine quiet_conv mL8k0 rfl rfl rfl (by simp only [Act.put, List.setIfInBounds_toArray, List.set_cons_succ, List.set_cons_zero]; rfl) ?_; go_big_quiet_on | refine quiet_conv mL11k0 rfl rfl rfl (by simp only [Act.put, List.setIfInBounds_toArray, List.set_cons_succ, List.set_cons_zero]; rfl) ?_; go_big_quiet_on))
    refine wpQuiet_nil ?_
    refine wpMix2_eff (by kernel_rfl) ?_
    go_wp2_with fail
    refine (tkpack_any A2 L c2 _ _ T6.out).mono ?_
    rw [PK.out]
    rintro e w7 ⟨v7, rfl, o7, k7⟩
    obtain ⟨A7, c7, rfl, b7, -⟩ := o7.shape
    rw [NK.out] at b7 ⊢
    have B7 := Lib.hid b7
    have H7 := Lib.hid (H6.out.later k7)
    have K7 := Lib.hid (K6.out.trans k7 (T := None) (fun _ h => h) (fun _ _ h => h))
    clear k7 o7 b7
    go_wp2
    obtain ⟨mL17S, mL17h⟩ : ∃ S : World → Prop, ∀ w', S w' ↔ (((convert 32 9 (.slice A7 nk c7)).run Try.prog w' = .ok (.string sk) w')) := ⟨_, fun _ => Iff.rfl⟩
    have mL17k0 : ∀ x : Memb mL17S, (convert 32 9 (.slice A7 nk c7)).run Try.prog x.at_ = .ok (.string sk) x.at_ := fun x => ((mL17h _).1 x.is)
    have mL17n : Nonempty (Memb mL17S) := ⟨⟨_, (mL17h _).2 (SK.out ▸ run_str B7.out)⟩⟩
    have mL17H := Lib.hid mL17h
    clear mL17h
    refine MixK2.late (D := InS mL17S) (x := 17) (by kernel_rfl) (cls_cons (InS.mk ((mL17H.out _).2 (SK.out ▸ run_str B7.out))) (cls_skip (by kernel_rfl) (cls_skip (by kernel_rfl) (cls_base (InS.mk ((mH.out _).2 trivial)))))) ?_
    refine wpMix2_seg 1 (InS mL17S) (by kernel_rfl) (by decide) (cl_one rfl) ?_
    simp only [List.take_succ_cons, List.take_zero, List.drop_succ_cons, List.drop_zero]
    repeat (first | go_big_quiet_step (fail) | (go_big_quiet_want; first | refine quiet_conv mL8k0 rfl rfl rfl (by simp only [Act.put, List.setIfInBounds_toArray, List.set_cons_succ, List.set_cons_zero]; rfl) ?_; go_big_quiet_on | refine quiet_conv mL11k0 rfl rfl rfl (by simp only [Act.put, List.setIfInBounds_toArray, List.set_cons_succ, List.set_cons_zero]; rfl) ?_; go_big_quiet_on | refine quiet_conv mL17k0 rfl rfl rfl (by simp only [Act.put, List.setIfInBounds_toArray, List.set_cons_succ, List.set_cons_zero]; rfl) ?_; go_big_quiet_on))
    refine wpQuiet_nil ?_
    refine wpMix2_seg 1 (InS mS) (by kernel_rfl) (by decide) (cl_base [17, 11, 8] rfl (by kernel_rfl)) ?_
    simp only [List.take_succ_cons, List.take_zero, List.drop_succ_cons, List.drop_zero]
    repeat (first | go_big_quiet_step (fail) | (go_big_quiet_want; first | refine quiet_conv mL8k0 rfl rfl rfl (by simp only [Act.put, List.setIfInBounds_toArray, List.set_cons_succ, List.set_cons_zero]; rfl) ?_; go_big_quiet_on | refine quiet_conv mL11k0 rfl rfl rfl (by simp only [Act.put, List.setIfInBounds_toArray, List.set_cons_succ, List.set_cons_zero]; rfl) ?_; go_big_quiet_on | refine quiet_conv mL17k0 rfl rfl rfl (by simp only [Act.put, List.setIfInBounds_toArray, List.set_cons_succ, List.set_cons_zero]; rfl) ?_; go_big_quiet_on))
    refine wpQuiet_nil ?_
    refine wpMix2_eff (by kernel_rfl) ?_
    go_wp2_with fail
    refine (rtpack_any A L cap _ _ H7.out).mono ?_
    rw [PK.out]
    rintro e w8 ⟨v8, rfl, o8, k8⟩
    obtain ⟨A8, c8, rfl, b8, -⟩ := o8.shape
    rw [NK.out] at b8 ⊢
    have B8 := Lib.hid b8
    have B78 := Lib.hid (B7.out.keeps k8 (fun _ _ _ _ _ h => h))
    have K8 := Lib.hid (K7.out.trans k8 (T := None) (fun _ h => h) (fun _ _ h => h))
    clear k8 o8 b8
    go_wp2
    obtain ⟨mL20S, mL20h⟩ : ∃ S : World → Prop, ∀ w', S w' ↔ (((convert 32 9 (.slice A8 nk c8)).run Try.prog w' = .ok (.string sk) w')) := ⟨_, fun _ => Iff.rfl⟩
    have mL20k0 : ∀ x : Memb mL20S, (convert 32 9 (.slice A8 nk c8)).run Try.prog x.at_ = .ok (.string sk) x.at_ := fun x => ((mL20h _).1 x.is)
    have mL20n : Nonempty (Memb mL20S) := ⟨⟨_, (mL20h _).2 (SK.out ▸ run_str B8.out)⟩⟩
    have mL20H := Lib.hid mL20h
    clear mL20h
    refine MixK2.late (D := InS mL20S) (x := 20) (by kernel_rfl) (cls_cons (InS.mk ((mL20H.out _).2 (SK.out ▸ run_str B8.out))) (cls_cons (InS.mk ((mL17H.out _).2 (SK.out ▸ run_str B78.out))) (cls_skip (by kernel_rfl) (cls_skip (by kernel_rfl) (cls_base (InS.mk ((mH.out _).2 trivial))))))) ?_
    refine wpMix2_seg 1 (InS mL20S) (by kernel_rfl) (by decide) (cl_one rfl) ?_
    simp only [List.take_succ_cons, List.take_zero, List.drop_succ_cons, List.drop_zero]
    repeat (first | go_big_quiet_step (fail) | (go_big_quiet_want; first | refine quiet_conv mL8k0 rfl rfl rfl (by simp only [Act.put, List.setIfInBounds_toArray, List.set_cons_succ, List.set_cons_zero]; rfl) ?_; go_big_quiet_on | refine quiet_conv mL11k0 rfl rfl rfl (by simp only [Act.put, List.setIfInBounds_toArray, List.set_cons_succ, List.set_cons_zero]; rfl) ?_; go_big_quiet_on | refine quiet_conv mL17k0 rfl rfl rfl (by simp only [Act.put, List.setIfInBounds_toArray, List.set_cons_succ, List.set_cons_zero]; rfl) ?_; go_big_quiet_on | refine quiet_conv mL20k0 rfl rfl rfl (by simp only [Act.put, List.setIfInBounds_toArray, List.set_cons_succ, List.set_cons_zero]; rfl) ?_; go_big_quiet_on))
    refine wpQuiet_nil ?_
    refine wpMix2_seg 3 (InS mS) (by kernel_rfl) (by decide) (cl_base [20, 17, 11, 8] rfl (by kernel_rfl)) ?_
    simp only [List.take_succ_cons, List.take_zero, List.drop_succ_cons, List.drop_zero]
    repeat (first | go_big_quiet_step (fail) | (go_big_quiet_want; first | refine quiet_conv mL8k0 rfl rfl rfl (by simp only [Act.put, List.setIfInBounds_toArray, List.set_cons_succ, List.set_cons_zero]; rfl) ?_; go_big_quiet_on | refine quiet_conv mL11k0 rfl rfl rfl (by simp only [Act.put, List.setIfInBounds_toArray, List.set_cons_succ, List.set_cons_zero]; rfl) ?_; go_big_quiet_on | refine quiet_conv mL17k0 rfl rfl rfl (by simp only [Act.put, List.setIfInBounds_toArray, List.set_cons_succ, List.set_cons_zero]; rfl) ?_; go_big_quiet_on | refine quiet_conv mL20k0 rfl rfl rfl (by simp only [Act.put, List.setIfInBounds_toArray, List.set_cons_succ, List.set_cons_zero]; rfl) ?_; go_big_quiet_on))
    refine wpQuiet_nil ?_
    refine wpMix2_nil ?_
    clear  mn mH mL8k0 mL8n mL8H mL11k0 mL11n mL11H mL17k0 mL17n mL17H mL20k0 mL20n mL20H
    go_wp2
    go_ret
    exact ⟨by simp, K8.out.below (fun _ _ h => h)⟩
  · rw [decide_eq_false hf] at FEW
    go_wp2_with fail
    refine (FEW.out _).mono ?_
    rintro e w' ⟨rfl, rfl⟩
    go_wp2
    go_ret
    exact ⟨rfl, K1.out.below (fun _ _ h => h)⟩
set_option maxRecDepth 100000 in
theorem TokenTells_lifted (os : Os) (started : os.Started) (H : Type) (enc : TypeId × Value → H) :
    ReturnsInHanded {} Try.checked os 6 .any (Rows.tokenTellsSpec.pre6 enc Try.prog Try.f6 Rows.tokenTellsRow.domain false) (Rows.tokenTellsSpec.post enc Try.prog Try.f6 false true false false) := by
  refine returnsInHanded_of_change (C := Try.checked) Try.own started (by kernel_rfl) Try.func6
    (ChangeSpec.witness6 (enc := enc) (C := Try.checked) false ⟨#[], #[.slice none 0 0], []⟩ 8 (by kernel_rfl) (by kernel_rfl) (by kernel_rfl) (by kernel_rfl)) ?_
  intro W base args ds gs before hval0 hW hcnd _
  have hval : ∀ (j : Nat) t v, Try.f6.params[j]? = some t → args[j]? = some v → Value.okWide Try.prog W .any base t v := hval0
  have hW' := hW
  obtain ⟨p, q, hA0, hV, rfl, hfz, hnd⟩ := hW
  have hA : DataW.TrodAll enc Try.prog W 0 (fun _ => true) true Try.f6.params.toList args.toList ds p := hA0
  rw [Try.params6] at hA hval
  obtain ⟨v0, vs0, d0, ds0, p0, q0, hargs, rfl, rfl, h0, r0⟩ := trodAll_cons hA
  obtain ⟨rfl, rfl, rfl⟩ := trodAll_nil r0
  obtain rfl : args = #[v0] := by cases args; simp_all
  obtain ⟨rfl, rfl⟩ := trodVars_none hV
  have k0 := h0
  have lt0 : ∀ x ∈ p0, x.block < W.heap.size := by obtain ⟨m, hm⟩ := k0; exact DataW.trod_lt m _ _ _ hm
  obtain ⟨a0, len0, cap0, rfl⟩ := okWide_slice Try.underlying49 (hval 0 49 v0 rfl rfl)
  obtain ⟨z0, s0⟩ := open_toks h0
  clear hA0 hval0
  refine (tells19_any a0 len0 cap0 z0 W s0).mono fun e W' ⟨he, bel⟩ => ?_
  subst he
  exact ⟨_, rfl, _, _, _, [], _, [], hW', trodAll_mk1 (shut_bool Try.underlying4 _), (trodAll_cons_mk (Below.trod Try.laidOut (by kernel_rfl) (of_decide_eq_true (by kernel_rfl)) k0 bel lt0) trodAll_mk0), rfl, bel.frame _, fun h => by cases h⟩

set_option maxRecDepth 100000 in
theorem TokenTells_closed : joinedFacts Try.checked.prog 6 Try.f6 Rows.tokenTellsSpec Rows.tokenTellsRow = true := by
  unfold joinedFacts
  rw [closed_laid, closed_maps, closed_heard, closed_plain, closed_mayEnter, closed_lifts, closed_make]
  kernel_rfl

theorem TokenTells_holds : Rows.TokenTellsSaid :=
  OpenClaim.holds_of_wide 6 Try.f6 rfl rfl rfl rfl rfl rfl rfl ⟨rfl, rfl, rfl, rfl, rfl⟩ rfl rfl rfl rfl rfl (by kernel_rfl) Try.func6 TokenTells_closed
    (of_decide_eq_true (by kernel_rfl)) (by unfold Func.isWrapper; first | (rw [if_pos (by decide +kernel)]; kernel_rfl) | (rw [if_neg (by decide +kernel)]; exact ⟨rfl, rfl⟩))
    (fun os started H enc _ => TokenTells_lifted os started H enc)
#print axioms TokenTells_holds
end Go.Proofs.Ytknjmpeopikffaa
