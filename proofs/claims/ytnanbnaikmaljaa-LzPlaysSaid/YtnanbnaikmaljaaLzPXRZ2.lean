
/- The reference's Lz: the walk of down. -/
import Derived.Test.YtnanbnaikmaljaaLzPXRZ
namespace Go.Proofs.Ytnanbnaikmaljaa
open Go.RowKit

def RZ.q (s : RZ) : Nat → List Int
  | 1 => s.q1
  | 2 => s.q2
  | _ => s.q3
def RZ.sq (s : RZ) (q : List Int) : Nat → RZ
  | 1 => { s with q1 := q }
  | 2 => { s with q2 := q }
  | _ => { s with q3 := q }
def dnP (j : Nat) (s : RZ) : Int := (s.q j).getD s.node.toNat 0
def dnS (j : Nat) (s : RZ) : RZ := { (s.sq (turnN (s.q j) s.node (dBitB s.d (dnP j s))) j) with d := dBitS s.d (dnP j s), node := 2 * s.node + dBitB s.d (dnP j s) }
/-- A bit of a tree's number; the number, or -1. -/
def dnF (j : Nat) (n : Int) (s : RZ) : RZ × Int := if (dnS j s).node < n then (dnS j s, -1) else ({ dnS j s with node := 1 }, (dnS j s).node - n)
def DownDone (w : World) (L : RZL) (v : Value) (r : RZ × Int) (e : Ending) (w' : World) : Prop :=
  e = .returned (.int .i64 r.2) ∧ RZAt w' L v r.1 ∧ Keeps (RZC L) w w'
-- 1 name, 2 which, 3 its struct, 4 its row, 5 how many, 6 RZAt's field, 7 RZOk's field, 8 the list
set_option maxRecDepth 100000 in
set_option maxHeartbeats 1600000 in
theorem rlzdown1_any (L : RZL) (v : Value) (z : RZ) (w : World) (h : RZAt w L v z) (ok : RZOk z) (hn : z.node < 256) :
    Calls Try.prog 56 #[.pointer (some ⟨L.zb, 0, none⟩), .pointer (some ⟨L.b1, 0, none⟩)] w (DownDone w L v (dnF 1 256 z)) := by
  obtain ⟨⟨rs, rn⟩, hres⟩ : ∃ x, dnF 1 256 z = x := ⟨_, rfl⟩
  rw [hres]
  obtain ⟨nd, hnd⟩ : ∃ nd : Nat, z.node = nd := ⟨z.node.toNat, by have := ok.n1; omega⟩
  have n1 : 1 ≤ nd := by have := ok.n1; omega
  have n2 : nd < 256 := by omega
  have RA := Lib.hid h
  have OK := Lib.hid ok
  have ord := h.ord
  obtain ⟨o1, o2, o3, o4, o5, o6, o7⟩ := ord
  have hlen : z.q1.length = 256 := ok.l1
  have LN9 := Lib.hid hlen
  have t1 : w.cell? ⟨L.b1, 1, none⟩ = some (.slice (some ⟨L.g1, 0, none⟩) 256 256) := by have := h.t1.1.cellD 1 _ rfl; rw [hlen] at this; exact this
  have r3 := h.cc.cellD 3 _ rfl
  have r11 : w.cell? ⟨L.zb, 11, none⟩ = some (.int .i64 (nd : Int)) := by rw [← hnd]; exact h.cc.cellD 11 _ rfl
  obtain ⟨p, hp⟩ : ∃ p, z.q1.getD nd 0 = p := ⟨_, rfl⟩
  have tp : w.cell? ⟨L.g1, nd, none⟩ = some (.int .i64 p) := by rw [← hp]; exact h.t1.2.1.cellD nd _ (map_getD 0 (by rw [hlen]; exact n2))
  obtain ⟨b, hb⟩ : ∃ b, dBitB z.d p = b := ⟨_, rfl⟩
  have b01 := dBitB_01 z.d p
  rw [hb] at b01
  have tpe : dnP 1 z = p := by show z.q1.getD z.node.toNat 0 = p; rw [hnd, Int.toNat_natCast]; exact hp
  have hs : dnS 1 z = { z with d := dBitS z.d p, q1 := turnN z.q1 nd b, node := 2 * (nd : Int) + b } := by unfold dnS; rw [tpe, hb, hnd]; rfl
  have RES : Hid ((rs, rn) = if 2 * (nd : Int) + b < 256 then ({ z with d := dBitS z.d p, q1 := turnN z.q1 nd b, node := 2 * (nd : Int) + b }, -1) else ({ z with d := dBitS z.d p, q1 := turnN z.q1 nd b, node := 1 }, 2 * (nd : Int) + b - 256)) := by
    show _ = _
    rw [← hres]; unfold dnF; rw [hs]
  have BIT := Lib.hid (fun w' (h' : DAt w' L.db 79 z.d) => rdbit_any L.db z.d p w' h' OK.out.dok.inv)
  rw [hb] at BIT
  have ND := Lib.hid hnd
  clear h ok hres hp hb tpe hs hnd hlen
  obtain ⟨bn, rfl⟩ : ∃ bn : Nat, b = bn := ⟨b.toNat, by omega⟩
  have bn1 : bn ≤ 1 := by omega
  clear b01 hn
  go_enter Try.func56, Try.ntmps56
  go_wp2
  obtain ⟨mS, mh⟩ : ∃ S : World → Prop, ∀ w', S w' ↔ (w'.cell? ⟨L.zb, 3, none⟩ = some (.pointer (some ⟨L.db, 0, none⟩)) ∧ w'.cell? ⟨L.b1, 1, none⟩ = some (.slice (some ⟨L.g1, 0, none⟩) 256 256) ∧ w'.cell? ⟨L.zb, 11, none⟩ = some (.int .i64 (nd : Int)) ∧ w'.cell? ⟨L.g1, nd, none⟩ = some (.int .i64 p)) := ⟨_, fun _ => Iff.rfl⟩
  have mk0 : ∀ x : Memb mS, x.at_.cell? ⟨L.zb, 3, none⟩ = some (.pointer (some ⟨L.db, 0, none⟩)) := fun x => ((mh _).1 x.is).1
  have mk1 : ∀ x : Memb mS, x.at_.cell? ⟨L.b1, 1, none⟩ = some (.slice (some ⟨L.g1, 0, none⟩) 256 256) := fun x => ((mh _).1 x.is).2.1
  have mk2 : ∀ x : Memb mS, x.at_.cell? ⟨L.zb, 11, none⟩ = some (.int .i64 (nd : Int)) := fun x => ((mh _).1 x.is).2.2.1
  have mk3 : ∀ x : Memb mS, x.at_.cell? ⟨L.g1, nd, none⟩ = some (.int .i64 p) := fun x => ((mh _).1 x.is).2.2.2
  have mn : Nonempty (Memb mS) := ⟨⟨(w).drew, (mh _).2 ⟨r3, t1, r11, tp⟩⟩⟩
  have mH := Lib.hid mh
  clear mh
  refine wp_region_mix [14] (InS mS) (by kernel_rfl) (by kernel_rfl) (InS.mk ((mH.out _).2 ⟨r3, t1, r11, tp⟩)) ?_
  refine wpMix_seg 14 (by kernel_rfl) (by decide) ?_
  simp only [List.take_succ_cons, List.take_zero, List.drop_succ_cons, List.drop_zero]
  repeat (go_big_quiet_step (fail))
  refine wpQuiet_nil ?_
  refine wpMix_eff (by kernel_rfl) ?_
  go_wp2_with fail
  refine (BIT.out _ RA.out.dc.drew).mono ?_
  rintro e w2 ⟨rfl, d2, k2⟩
  have D2 := Lib.hid d2
  have K2 := Lib.hid ((Keeps.refl (fun k => k = L.db) w).drew.trans k2 (T := fun k => k = L.db) (fun _ h => h) (fun _ _ h => h))
  have TR2 := Lib.hid (RA.out.t1.keeps K2.out (by show ¬ _ = _; omega) (by show ¬ _ = _; omega))
  have C2 := Lib.hid (K2.out.blk RA.out.cc (by show ¬ _ = _; omega))
  clear d2 k2
  go_wp2
  refine MixK.on (InS.mk ((mH.out _).2 (⟨C2.out.cellD 3 _ rfl, (by have := TR2.out.1.cellD 1 _ rfl; rw [LN9.out] at this; exact this), (by rw [← ND.out]; exact C2.out.cellD 11 _ rfl), (K2.out.cell (p := ⟨L.g1, nd, none⟩) RA.out.t1.2.1.lt (by show ¬ L.g1 = L.db; omega)).trans tp⟩))) ?_
  refine wpMix_seg 5 (by kernel_rfl) (by decide) ?_
  simp only [List.take_succ_cons, List.take_zero, List.drop_succ_cons, List.drop_zero]
  repeat (go_big_quiet_step (fail))
  refine wpQuiet_nil ?_
  refine wpMix_nil ?_
  clear mk0 mk1 mk2 mk3 mn mH
  have r11' : w2.cell? ⟨L.zb, 11, none⟩ = some (.int .i64 (nd : Int)) := by rw [← ND.out]; exact C2.out.cellD 11 _ rfl
  go_wp2_with fail
  refine (rturn_any L.b1 L.g1 _ z.q1 nd bn _ TR2.out (by rw [LN9.out]; decide)).mono ?_
  rintro e w3 ⟨rfl, tr3, k3⟩
  have K3 := Lib.hid k3
  have TR3 := Lib.hid tr3
  have C3 := Lib.hid (k3.blk C2.out (by show ¬ _ = _; omega))
  have r3b : w3.cell? ⟨L.zb, 11, none⟩ = some (.int .i64 (nd : Int)) := by rw [← ND.out]; exact C3.out.cellD 11 _ rfl
  have f3b := C3.out.frozen 11
  have K23 := Lib.hid (K2.out.trans k3 (T := fun k => k = L.db ∨ k = L.g1) (fun _ h => .inl h) (fun _ _ h => .inr h))
  have ks := (Keeps.self L.zb w3).put 11 (.int .i64 (2 * (nd : Int) + bn))
  have C4 := Lib.hid (C3.out.set 11 (.int .i64 (2 * (nd : Int) + bn)))
  have TR4 := Lib.hid (TR3.out.keeps ks (by show ¬ _ = _; omega) (by show ¬ _ = _; omega))
  have KW := Lib.hid (K23.out.trans ks (T := RZC L) (fun k e => by have e : k = L.db ∨ k = L.g1 := e; exact ⟨by omega, by omega⟩) (fun k _ e => by have e : k = L.zb := e; exact ⟨by omega, by omega⟩))
  have D4 := Lib.hid ((D2.out.keeps K3.out (by show ¬ _ = _; omega)).keeps ks (by show ¬ _ = _; omega))
  have t4 : (w3.setCell ⟨L.zb, 11, none⟩ (.int .i64 (2 * (nd : Int) + bn))).cell? ⟨L.b1, 1, none⟩ = some (.slice (some ⟨L.g1, 0, none⟩) 256 256) := by have := TR4.out.1.cellD 1 _ rfl; rw [turnN_length, LN9.out] at this; exact this
  have r4 : (w3.setCell ⟨L.zb, 11, none⟩ (.int .i64 (2 * (nd : Int) + bn))).cell? ⟨L.zb, 11, none⟩ = some (.int .i64 (2 * (nd : Int) + bn)) := C4.out.cellD 11 _ rfl
  have f4 := C4.out.frozen 11
  have RT1 := Lib.hid (K23.out.trans ks (T := fun k => k = L.db ∨ k = L.g1 ∨ k = L.zb) (fun k e => e.elim .inl (fun e => .inr (.inl e))) (fun k _ e => .inr (.inr e)))
  obtain ⟨w4, hw4⟩ : ∃ x, w3.setCell ⟨L.zb, 11, none⟩ (.int .i64 (2 * (nd : Int) + bn)) = x := ⟨_, rfl⟩
  have HW4 := Lib.hid hw4
  rw [hw4] at C4 TR4 KW D4 t4 r4 f4 RT1
  have RZ4 : Hid (∀ x, Blk w4 L.zb (rzcells L v { z with d := dBitS z.d p, q1 := turnN z.q1 nd bn, node := x }) 53 → RZAt w4 L v { z with d := dBitS z.d p, q1 := turnN z.q1 nd bn, node := x }) := by
    show ∀ x, _
    intro x hx
    have r := RA.out
    refine ⟨hx, r.ow.keeps RT1.out (fun b hb e => by have h1 := r.ow.notBelow (i := b); have h2 : b = L.db ∨ b = L.g1 ∨ b = L.zb := e; exact h1 (by omega) hb), D4.out, ?_, ?_, ?_, r.ord⟩
    all_goals first | exact TR4.out | exact r.t1.keeps RT1.out (by show ¬ (_ ∨ _ ∨ _); omega) (by show ¬ (_ ∨ _ ∨ _); omega) | exact r.t2.keeps RT1.out (by show ¬ (_ ∨ _ ∨ _); omega) (by show ¬ (_ ∨ _ ∨ _); omega) | exact r.t3.keeps RT1.out (by show ¬ (_ ∨ _ ∨ _); omega) (by show ¬ (_ ∨ _ ∨ _); omega)
  clear tr3 k3 ks D2 K2 TR2 C2 TR3 C3 r11' hw4 D4 RT1 K23 K3
  by_cases hlt : 2 * (nd : Int) + bn < 256
  · have RES1 : Hid ((rs, rn) = ({ z with d := dBitS z.d p, q1 := turnN z.q1 nd bn, node := 2 * (nd : Int) + bn }, -1)) := by show _ = _; rw [RES.out, if_pos hlt]
    have d5 : decide (2 * (nd : Int) + bn < 256) = true := decide_eq_true hlt
    clear RES
    go_wp2_with fail
    rw [HW4.out]
    go_quiet (fail)
    go_wp2
    go_ret
    have e := RES1.out
    cases e
    have rr := RZ4.out (2 * (nd : Int) + bn) C4.out
    exact ⟨rfl, rr.later ((Keeps.refl None w4).drewN _), KW.out.drewN _⟩
  · have RES1 : Hid ((rs, rn) = ({ z with d := dBitS z.d p, q1 := turnN z.q1 nd bn, node := 1 }, 2 * (nd : Int) + bn - 256)) := by show _ = _; rw [RES.out, if_neg hlt]
    have d5 : decide (2 * (nd : Int) + bn < 256) = false := decide_eq_false hlt
    clear RES
    go_wp2_with fail
    rw [HW4.out]
    go_quiet (fail)
    go_wp2_with fail
    go_quiet (fail)
    go_wp2
    go_ret
    have e := RES1.out
    cases e
    exact ⟨rfl, ((RZ4.out (2 * (nd : Int) + bn) C4.out).later ((Keeps.refl None w4).drewN _)).put 11 (.int .i64 1) rfl rfl rfl rfl rfl rfl, RZC.put RA.out.ord (KW.out.drewN _) 11 _⟩
-- 1 name, 2 which, 3 its struct, 4 its row, 5 how many, 6 RZAt's field, 7 RZOk's field, 8 the list
set_option maxRecDepth 100000 in
set_option maxHeartbeats 1600000 in
theorem rlzdown2_any (L : RZL) (v : Value) (z : RZ) (w : World) (h : RZAt w L v z) (ok : RZOk z) (hn : z.node < 256) :
    Calls Try.prog 56 #[.pointer (some ⟨L.zb, 0, none⟩), .pointer (some ⟨L.b2, 0, none⟩)] w (DownDone w L v (dnF 2 256 z)) := by
  obtain ⟨⟨rs, rn⟩, hres⟩ : ∃ x, dnF 2 256 z = x := ⟨_, rfl⟩
  rw [hres]
  obtain ⟨nd, hnd⟩ : ∃ nd : Nat, z.node = nd := ⟨z.node.toNat, by have := ok.n1; omega⟩
  have n1 : 1 ≤ nd := by have := ok.n1; omega
  have n2 : nd < 256 := by omega
  have RA := Lib.hid h
  have OK := Lib.hid ok
  have ord := h.ord
  obtain ⟨o1, o2, o3, o4, o5, o6, o7⟩ := ord
  have hlen : z.q2.length = 256 := ok.l2
  have LN9 := Lib.hid hlen
  have t1 : w.cell? ⟨L.b2, 1, none⟩ = some (.slice (some ⟨L.g2, 0, none⟩) 256 256) := by have := h.t2.1.cellD 1 _ rfl; rw [hlen] at this; exact this
  have r3 := h.cc.cellD 3 _ rfl
  have r11 : w.cell? ⟨L.zb, 11, none⟩ = some (.int .i64 (nd : Int)) := by rw [← hnd]; exact h.cc.cellD 11 _ rfl
  obtain ⟨p, hp⟩ : ∃ p, z.q2.getD nd 0 = p := ⟨_, rfl⟩
  have tp : w.cell? ⟨L.g2, nd, none⟩ = some (.int .i64 p) := by rw [← hp]; exact h.t2.2.1.cellD nd _ (map_getD 0 (by rw [hlen]; exact n2))
  obtain ⟨b, hb⟩ : ∃ b, dBitB z.d p = b := ⟨_, rfl⟩
  have b01 := dBitB_01 z.d p
  rw [hb] at b01
  have tpe : dnP 2 z = p := by show z.q2.getD z.node.toNat 0 = p; rw [hnd, Int.toNat_natCast]; exact hp
  have hs : dnS 2 z = { z with d := dBitS z.d p, q2 := turnN z.q2 nd b, node := 2 * (nd : Int) + b } := by unfold dnS; rw [tpe, hb, hnd]; rfl
  have RES : Hid ((rs, rn) = if 2 * (nd : Int) + b < 256 then ({ z with d := dBitS z.d p, q2 := turnN z.q2 nd b, node := 2 * (nd : Int) + b }, -1) else ({ z with d := dBitS z.d p, q2 := turnN z.q2 nd b, node := 1 }, 2 * (nd : Int) + b - 256)) := by
    show _ = _
    rw [← hres]; unfold dnF; rw [hs]
  have BIT := Lib.hid (fun w' (h' : DAt w' L.db 79 z.d) => rdbit_any L.db z.d p w' h' OK.out.dok.inv)
  rw [hb] at BIT
  have ND := Lib.hid hnd
  clear h ok hres hp hb tpe hs hnd hlen
  obtain ⟨bn, rfl⟩ : ∃ bn : Nat, b = bn := ⟨b.toNat, by omega⟩
  have bn1 : bn ≤ 1 := by omega
  clear b01 hn
  go_enter Try.func56, Try.ntmps56
  go_wp2
  obtain ⟨mS, mh⟩ : ∃ S : World → Prop, ∀ w', S w' ↔ (w'.cell? ⟨L.zb, 3, none⟩ = some (.pointer (some ⟨L.db, 0, none⟩)) ∧ w'.cell? ⟨L.b2, 1, none⟩ = some (.slice (some ⟨L.g2, 0, none⟩) 256 256) ∧ w'.cell? ⟨L.zb, 11, none⟩ = some (.int .i64 (nd : Int)) ∧ w'.cell? ⟨L.g2, nd, none⟩ = some (.int .i64 p)) := ⟨_, fun _ => Iff.rfl⟩
  have mk0 : ∀ x : Memb mS, x.at_.cell? ⟨L.zb, 3, none⟩ = some (.pointer (some ⟨L.db, 0, none⟩)) := fun x => ((mh _).1 x.is).1
  have mk1 : ∀ x : Memb mS, x.at_.cell? ⟨L.b2, 1, none⟩ = some (.slice (some ⟨L.g2, 0, none⟩) 256 256) := fun x => ((mh _).1 x.is).2.1
  have mk2 : ∀ x : Memb mS, x.at_.cell? ⟨L.zb, 11, none⟩ = some (.int .i64 (nd : Int)) := fun x => ((mh _).1 x.is).2.2.1
  have mk3 : ∀ x : Memb mS, x.at_.cell? ⟨L.g2, nd, none⟩ = some (.int .i64 p) := fun x => ((mh _).1 x.is).2.2.2
  have mn : Nonempty (Memb mS) := ⟨⟨(w).drew, (mh _).2 ⟨r3, t1, r11, tp⟩⟩⟩
  have mH := Lib.hid mh
  clear mh
  refine wp_region_mix [14] (InS mS) (by kernel_rfl) (by kernel_rfl) (InS.mk ((mH.out _).2 ⟨r3, t1, r11, tp⟩)) ?_
  refine wpMix_seg 14 (by kernel_rfl) (by decide) ?_
  simp only [List.take_succ_cons, List.take_zero, List.drop_succ_cons, List.drop_zero]
  repeat (go_big_quiet_step (fail))
  refine wpQuiet_nil ?_
  refine wpMix_eff (by kernel_rfl) ?_
  go_wp2_with fail
  refine (BIT.out _ RA.out.dc.drew).mono ?_
  rintro e w2 ⟨rfl, d2, k2⟩
  have D2 := Lib.hid d2
  have K2 := Lib.hid ((Keeps.refl (fun k => k = L.db) w).drew.trans k2 (T := fun k => k = L.db) (fun _ h => h) (fun _ _ h => h))
  have TR2 := Lib.hid (RA.out.t2.keeps K2.out (by show ¬ _ = _; omega) (by show ¬ _ = _; omega))
  have C2 := Lib.hid (K2.out.blk RA.out.cc (by show ¬ _ = _; omega))
  clear d2 k2
  go_wp2
  refine MixK.on (InS.mk ((mH.out _).2 (⟨C2.out.cellD 3 _ rfl, (by have := TR2.out.1.cellD 1 _ rfl; rw [LN9.out] at this; exact this), (by rw [← ND.out]; exact C2.out.cellD 11 _ rfl), (K2.out.cell (p := ⟨L.g2, nd, none⟩) RA.out.t2.2.1.lt (by show ¬ L.g2 = L.db; omega)).trans tp⟩))) ?_
  refine wpMix_seg 5 (by kernel_rfl) (by decide) ?_
  simp only [List.take_succ_cons, List.take_zero, List.drop_succ_cons, List.drop_zero]
  repeat (go_big_quiet_step (fail))
  refine wpQuiet_nil ?_
  refine wpMix_nil ?_
  clear mk0 mk1 mk2 mk3 mn mH
  have r11' : w2.cell? ⟨L.zb, 11, none⟩ = some (.int .i64 (nd : Int)) := by rw [← ND.out]; exact C2.out.cellD 11 _ rfl
  go_wp2_with fail
  refine (rturn_any L.b2 L.g2 _ z.q2 nd bn _ TR2.out (by rw [LN9.out]; decide)).mono ?_
  rintro e w3 ⟨rfl, tr3, k3⟩
  have K3 := Lib.hid k3
  have TR3 := Lib.hid tr3
  have C3 := Lib.hid (k3.blk C2.out (by show ¬ _ = _; omega))
  have r3b : w3.cell? ⟨L.zb, 11, none⟩ = some (.int .i64 (nd : Int)) := by rw [← ND.out]; exact C3.out.cellD 11 _ rfl
  have f3b := C3.out.frozen 11
  have K23 := Lib.hid (K2.out.trans k3 (T := fun k => k = L.db ∨ k = L.g2) (fun _ h => .inl h) (fun _ _ h => .inr h))
  have ks := (Keeps.self L.zb w3).put 11 (.int .i64 (2 * (nd : Int) + bn))
  have C4 := Lib.hid (C3.out.set 11 (.int .i64 (2 * (nd : Int) + bn)))
  have TR4 := Lib.hid (TR3.out.keeps ks (by show ¬ _ = _; omega) (by show ¬ _ = _; omega))
  have KW := Lib.hid (K23.out.trans ks (T := RZC L) (fun k e => by have e : k = L.db ∨ k = L.g2 := e; exact ⟨by omega, by omega⟩) (fun k _ e => by have e : k = L.zb := e; exact ⟨by omega, by omega⟩))
  have D4 := Lib.hid ((D2.out.keeps K3.out (by show ¬ _ = _; omega)).keeps ks (by show ¬ _ = _; omega))
  have t4 : (w3.setCell ⟨L.zb, 11, none⟩ (.int .i64 (2 * (nd : Int) + bn))).cell? ⟨L.b2, 1, none⟩ = some (.slice (some ⟨L.g2, 0, none⟩) 256 256) := by have := TR4.out.1.cellD 1 _ rfl; rw [turnN_length, LN9.out] at this; exact this
  have r4 : (w3.setCell ⟨L.zb, 11, none⟩ (.int .i64 (2 * (nd : Int) + bn))).cell? ⟨L.zb, 11, none⟩ = some (.int .i64 (2 * (nd : Int) + bn)) := C4.out.cellD 11 _ rfl
  have f4 := C4.out.frozen 11
  have RT1 := Lib.hid (K23.out.trans ks (T := fun k => k = L.db ∨ k = L.g2 ∨ k = L.zb) (fun k e => e.elim .inl (fun e => .inr (.inl e))) (fun k _ e => .inr (.inr e)))
  obtain ⟨w4, hw4⟩ : ∃ x, w3.setCell ⟨L.zb, 11, none⟩ (.int .i64 (2 * (nd : Int) + bn)) = x := ⟨_, rfl⟩
  have HW4 := Lib.hid hw4
  rw [hw4] at C4 TR4 KW D4 t4 r4 f4 RT1
  have RZ4 : Hid (∀ x, Blk w4 L.zb (rzcells L v { z with d := dBitS z.d p, q2 := turnN z.q2 nd bn, node := x }) 53 → RZAt w4 L v { z with d := dBitS z.d p, q2 := turnN z.q2 nd bn, node := x }) := by
    show ∀ x, _
    intro x hx
    have r := RA.out
    refine ⟨hx, r.ow.keeps RT1.out (fun b hb e => by have h1 := r.ow.notBelow (i := b); have h2 : b = L.db ∨ b = L.g2 ∨ b = L.zb := e; exact h1 (by omega) hb), D4.out, ?_, ?_, ?_, r.ord⟩
    all_goals first | exact TR4.out | exact r.t1.keeps RT1.out (by show ¬ (_ ∨ _ ∨ _); omega) (by show ¬ (_ ∨ _ ∨ _); omega) | exact r.t2.keeps RT1.out (by show ¬ (_ ∨ _ ∨ _); omega) (by show ¬ (_ ∨ _ ∨ _); omega) | exact r.t3.keeps RT1.out (by show ¬ (_ ∨ _ ∨ _); omega) (by show ¬ (_ ∨ _ ∨ _); omega)
  clear tr3 k3 ks D2 K2 TR2 C2 TR3 C3 r11' hw4 D4 RT1 K23 K3
  by_cases hlt : 2 * (nd : Int) + bn < 256
  · have RES1 : Hid ((rs, rn) = ({ z with d := dBitS z.d p, q2 := turnN z.q2 nd bn, node := 2 * (nd : Int) + bn }, -1)) := by show _ = _; rw [RES.out, if_pos hlt]
    have d5 : decide (2 * (nd : Int) + bn < 256) = true := decide_eq_true hlt
    clear RES
    go_wp2_with fail
    rw [HW4.out]
    go_quiet (fail)
    go_wp2
    go_ret
    have e := RES1.out
    cases e
    have rr := RZ4.out (2 * (nd : Int) + bn) C4.out
    exact ⟨rfl, rr.later ((Keeps.refl None w4).drewN _), KW.out.drewN _⟩
  · have RES1 : Hid ((rs, rn) = ({ z with d := dBitS z.d p, q2 := turnN z.q2 nd bn, node := 1 }, 2 * (nd : Int) + bn - 256)) := by show _ = _; rw [RES.out, if_neg hlt]
    have d5 : decide (2 * (nd : Int) + bn < 256) = false := decide_eq_false hlt
    clear RES
    go_wp2_with fail
    rw [HW4.out]
    go_quiet (fail)
    go_wp2_with fail
    go_quiet (fail)
    go_wp2
    go_ret
    have e := RES1.out
    cases e
    exact ⟨rfl, ((RZ4.out (2 * (nd : Int) + bn) C4.out).later ((Keeps.refl None w4).drewN _)).put 11 (.int .i64 1) rfl rfl rfl rfl rfl rfl, RZC.put RA.out.ord (KW.out.drewN _) 11 _⟩
-- 1 name, 2 which, 3 its struct, 4 its row, 5 how many, 6 RZAt's field, 7 RZOk's field, 8 the list
set_option maxRecDepth 100000 in
set_option maxHeartbeats 1600000 in
theorem rlzdown3_any (L : RZL) (v : Value) (z : RZ) (w : World) (h : RZAt w L v z) (ok : RZOk z) (hn : z.node < 64) :
    Calls Try.prog 56 #[.pointer (some ⟨L.zb, 0, none⟩), .pointer (some ⟨L.b3, 0, none⟩)] w (DownDone w L v (dnF 3 64 z)) := by
  obtain ⟨⟨rs, rn⟩, hres⟩ : ∃ x, dnF 3 64 z = x := ⟨_, rfl⟩
  rw [hres]
  obtain ⟨nd, hnd⟩ : ∃ nd : Nat, z.node = nd := ⟨z.node.toNat, by have := ok.n1; omega⟩
  have n1 : 1 ≤ nd := by have := ok.n1; omega
  have n2 : nd < 64 := by omega
  have RA := Lib.hid h
  have OK := Lib.hid ok
  have ord := h.ord
  obtain ⟨o1, o2, o3, o4, o5, o6, o7⟩ := ord
  have hlen : z.q3.length = 64 := ok.l3
  have LN9 := Lib.hid hlen
  have t1 : w.cell? ⟨L.b3, 1, none⟩ = some (.slice (some ⟨L.g3, 0, none⟩) 64 64) := by have := h.t3.1.cellD 1 _ rfl; rw [hlen] at this; exact this
  have r3 := h.cc.cellD 3 _ rfl
  have r11 : w.cell? ⟨L.zb, 11, none⟩ = some (.int .i64 (nd : Int)) := by rw [← hnd]; exact h.cc.cellD 11 _ rfl
  obtain ⟨p, hp⟩ : ∃ p, z.q3.getD nd 0 = p := ⟨_, rfl⟩
  have tp : w.cell? ⟨L.g3, nd, none⟩ = some (.int .i64 p) := by rw [← hp]; exact h.t3.2.1.cellD nd _ (map_getD 0 (by rw [hlen]; exact n2))
  obtain ⟨b, hb⟩ : ∃ b, dBitB z.d p = b := ⟨_, rfl⟩
  have b01 := dBitB_01 z.d p
  rw [hb] at b01
  have tpe : dnP 3 z = p := by show z.q3.getD z.node.toNat 0 = p; rw [hnd, Int.toNat_natCast]; exact hp
  have hs : dnS 3 z = { z with d := dBitS z.d p, q3 := turnN z.q3 nd b, node := 2 * (nd : Int) + b } := by unfold dnS; rw [tpe, hb, hnd]; rfl
  have RES : Hid ((rs, rn) = if 2 * (nd : Int) + b < 64 then ({ z with d := dBitS z.d p, q3 := turnN z.q3 nd b, node := 2 * (nd : Int) + b }, -1) else ({ z with d := dBitS z.d p, q3 := turnN z.q3 nd b, node := 1 }, 2 * (nd : Int) + b - 64)) := by
    show _ = _
    rw [← hres]; unfold dnF; rw [hs]
  have BIT := Lib.hid (fun w' (h' : DAt w' L.db 79 z.d) => rdbit_any L.db z.d p w' h' OK.out.dok.inv)
  rw [hb] at BIT
  have ND := Lib.hid hnd
  clear h ok hres hp hb tpe hs hnd hlen
  obtain ⟨bn, rfl⟩ : ∃ bn : Nat, b = bn := ⟨b.toNat, by omega⟩
  have bn1 : bn ≤ 1 := by omega
  clear b01 hn
  go_enter Try.func56, Try.ntmps56
  go_wp2
  obtain ⟨mS, mh⟩ : ∃ S : World → Prop, ∀ w', S w' ↔ (w'.cell? ⟨L.zb, 3, none⟩ = some (.pointer (some ⟨L.db, 0, none⟩)) ∧ w'.cell? ⟨L.b3, 1, none⟩ = some (.slice (some ⟨L.g3, 0, none⟩) 64 64) ∧ w'.cell? ⟨L.zb, 11, none⟩ = some (.int .i64 (nd : Int)) ∧ w'.cell? ⟨L.g3, nd, none⟩ = some (.int .i64 p)) := ⟨_, fun _ => Iff.rfl⟩
  have mk0 : ∀ x : Memb mS, x.at_.cell? ⟨L.zb, 3, none⟩ = some (.pointer (some ⟨L.db, 0, none⟩)) := fun x => ((mh _).1 x.is).1
  have mk1 : ∀ x : Memb mS, x.at_.cell? ⟨L.b3, 1, none⟩ = some (.slice (some ⟨L.g3, 0, none⟩) 64 64) := fun x => ((mh _).1 x.is).2.1
  have mk2 : ∀ x : Memb mS, x.at_.cell? ⟨L.zb, 11, none⟩ = some (.int .i64 (nd : Int)) := fun x => ((mh _).1 x.is).2.2.1
  have mk3 : ∀ x : Memb mS, x.at_.cell? ⟨L.g3, nd, none⟩ = some (.int .i64 p) := fun x => ((mh _).1 x.is).2.2.2
  have mn : Nonempty (Memb mS) := ⟨⟨(w).drew, (mh _).2 ⟨r3, t1, r11, tp⟩⟩⟩
  have mH := Lib.hid mh
  clear mh
  refine wp_region_mix [14] (InS mS) (by kernel_rfl) (by kernel_rfl) (InS.mk ((mH.out _).2 ⟨r3, t1, r11, tp⟩)) ?_
  refine wpMix_seg 14 (by kernel_rfl) (by decide) ?_
  simp only [List.take_succ_cons, List.take_zero, List.drop_succ_cons, List.drop_zero]
  repeat (go_big_quiet_step (fail))
  refine wpQuiet_nil ?_
  refine wpMix_eff (by kernel_rfl) ?_
  go_wp2_with fail
  refine (BIT.out _ RA.out.dc.drew).mono ?_
  rintro e w2 ⟨rfl, d2, k2⟩
  have D2 := Lib.hid d2
  have K2 := Lib.hid ((Keeps.refl (fun k => k = L.db) w).drew.trans k2 (T := fun k => k = L.db) (fun _ h => h) (fun _ _ h => h))
  have TR2 := Lib.hid (RA.out.t3.keeps K2.out (by show ¬ _ = _; omega) (by show ¬ _ = _; omega))
  have C2 := Lib.hid (K2.out.blk RA.out.cc (by show ¬ _ = _; omega))
  clear d2 k2
  go_wp2
  refine MixK.on (InS.mk ((mH.out _).2 (⟨C2.out.cellD 3 _ rfl, (by have := TR2.out.1.cellD 1 _ rfl; rw [LN9.out] at this; exact this), (by rw [← ND.out]; exact C2.out.cellD 11 _ rfl), (K2.out.cell (p := ⟨L.g3, nd, none⟩) RA.out.t3.2.1.lt (by show ¬ L.g3 = L.db; omega)).trans tp⟩))) ?_
  refine wpMix_seg 5 (by kernel_rfl) (by decide) ?_
  simp only [List.take_succ_cons, List.take_zero, List.drop_succ_cons, List.drop_zero]
  repeat (go_big_quiet_step (fail))
  refine wpQuiet_nil ?_
  refine wpMix_nil ?_
  clear mk0 mk1 mk2 mk3 mn mH
  have r11' : w2.cell? ⟨L.zb, 11, none⟩ = some (.int .i64 (nd : Int)) := by rw [← ND.out]; exact C2.out.cellD 11 _ rfl
  go_wp2_with fail
  refine (rturn_any L.b3 L.g3 _ z.q3 nd bn _ TR2.out (by rw [LN9.out]; decide)).mono ?_
  rintro e w3 ⟨rfl, tr3, k3⟩
  have K3 := Lib.hid k3
  have TR3 := Lib.hid tr3
  have C3 := Lib.hid (k3.blk C2.out (by show ¬ _ = _; omega))
  have r3b : w3.cell? ⟨L.zb, 11, none⟩ = some (.int .i64 (nd : Int)) := by rw [← ND.out]; exact C3.out.cellD 11 _ rfl
  have f3b := C3.out.frozen 11
  have K23 := Lib.hid (K2.out.trans k3 (T := fun k => k = L.db ∨ k = L.g3) (fun _ h => .inl h) (fun _ _ h => .inr h))
  have ks := (Keeps.self L.zb w3).put 11 (.int .i64 (2 * (nd : Int) + bn))
  have C4 := Lib.hid (C3.out.set 11 (.int .i64 (2 * (nd : Int) + bn)))
  have TR4 := Lib.hid (TR3.out.keeps ks (by show ¬ _ = _; omega) (by show ¬ _ = _; omega))
  have KW := Lib.hid (K23.out.trans ks (T := RZC L) (fun k e => by have e : k = L.db ∨ k = L.g3 := e; exact ⟨by omega, by omega⟩) (fun k _ e => by have e : k = L.zb := e; exact ⟨by omega, by omega⟩))
  have D4 := Lib.hid ((D2.out.keeps K3.out (by show ¬ _ = _; omega)).keeps ks (by show ¬ _ = _; omega))
  have t4 : (w3.setCell ⟨L.zb, 11, none⟩ (.int .i64 (2 * (nd : Int) + bn))).cell? ⟨L.b3, 1, none⟩ = some (.slice (some ⟨L.g3, 0, none⟩) 64 64) := by have := TR4.out.1.cellD 1 _ rfl; rw [turnN_length, LN9.out] at this; exact this
  have r4 : (w3.setCell ⟨L.zb, 11, none⟩ (.int .i64 (2 * (nd : Int) + bn))).cell? ⟨L.zb, 11, none⟩ = some (.int .i64 (2 * (nd : Int) + bn)) := C4.out.cellD 11 _ rfl
  have f4 := C4.out.frozen 11
  have RT1 := Lib.hid (K23.out.trans ks (T := fun k => k = L.db ∨ k = L.g3 ∨ k = L.zb) (fun k e => e.elim .inl (fun e => .inr (.inl e))) (fun k _ e => .inr (.inr e)))
  obtain ⟨w4, hw4⟩ : ∃ x, w3.setCell ⟨L.zb, 11, none⟩ (.int .i64 (2 * (nd : Int) + bn)) = x := ⟨_, rfl⟩
  have HW4 := Lib.hid hw4
  rw [hw4] at C4 TR4 KW D4 t4 r4 f4 RT1
  have RZ4 : Hid (∀ x, Blk w4 L.zb (rzcells L v { z with d := dBitS z.d p, q3 := turnN z.q3 nd bn, node := x }) 53 → RZAt w4 L v { z with d := dBitS z.d p, q3 := turnN z.q3 nd bn, node := x }) := by
    show ∀ x, _
    intro x hx
    have r := RA.out
    refine ⟨hx, r.ow.keeps RT1.out (fun b hb e => by have h1 := r.ow.notBelow (i := b); have h2 : b = L.db ∨ b = L.g3 ∨ b = L.zb := e; exact h1 (by omega) hb), D4.out, ?_, ?_, ?_, r.ord⟩
    all_goals first | exact TR4.out | exact r.t1.keeps RT1.out (by show ¬ (_ ∨ _ ∨ _); omega) (by show ¬ (_ ∨ _ ∨ _); omega) | exact r.t2.keeps RT1.out (by show ¬ (_ ∨ _ ∨ _); omega) (by show ¬ (_ ∨ _ ∨ _); omega) | exact r.t3.keeps RT1.out (by show ¬ (_ ∨ _ ∨ _); omega) (by show ¬ (_ ∨ _ ∨ _); omega)
  clear tr3 k3 ks D2 K2 TR2 C2 TR3 C3 r11' hw4 D4 RT1 K23 K3
  by_cases hlt : 2 * (nd : Int) + bn < 64
  · have RES1 : Hid ((rs, rn) = ({ z with d := dBitS z.d p, q3 := turnN z.q3 nd bn, node := 2 * (nd : Int) + bn }, -1)) := by show _ = _; rw [RES.out, if_pos hlt]
    have d5 : decide (2 * (nd : Int) + bn < 64) = true := decide_eq_true hlt
    clear RES
    go_wp2_with fail
    rw [HW4.out]
    go_quiet (fail)
    go_wp2
    go_ret
    have e := RES1.out
    cases e
    have rr := RZ4.out (2 * (nd : Int) + bn) C4.out
    exact ⟨rfl, rr.later ((Keeps.refl None w4).drewN _), KW.out.drewN _⟩
  · have RES1 : Hid ((rs, rn) = ({ z with d := dBitS z.d p, q3 := turnN z.q3 nd bn, node := 1 }, 2 * (nd : Int) + bn - 64)) := by show _ = _; rw [RES.out, if_neg hlt]
    have d5 : decide (2 * (nd : Int) + bn < 64) = false := decide_eq_false hlt
    clear RES
    go_wp2_with fail
    rw [HW4.out]
    go_quiet (fail)
    go_wp2_with fail
    go_quiet (fail)
    go_wp2
    go_ret
    have e := RES1.out
    cases e
    exact ⟨rfl, ((RZ4.out (2 * (nd : Int) + bn) C4.out).later ((Keeps.refl None w4).drewN _)).put 11 (.int .i64 1) rfl rfl rfl rfl rfl rfl, RZC.put RA.out.ord (KW.out.drewN _) 11 _⟩
end Go.Proofs.Ytnanbnaikmaljaa
