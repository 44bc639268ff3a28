
/- The reference's Lz: bit in plain words, and its walk. -/
import Derived.Test.YtnanbnaikmaljaaLzPXRZ2
namespace Go.Proofs.Ytnanbnaikmaljaa
open Go.RowKit

def rzP (z : RZ) : Int := if z.was = 0 then z.p0 else z.p1
def rzK (z : RZ) : RZ := if z.was = 0 then { z with d := dBitS z.d (rzP z), p0 := dBitP z.d (rzP z), was := dBitB z.d (rzP z), t := ⟨0, 0, 0⟩, part := 1 + (dBitB z.d (rzP z)).toNat } else { z with d := dBitS z.d (rzP z), p1 := dBitP z.d (rzP z), was := dBitB z.d (rzP z), t := ⟨0, 0, 0⟩, part := 1 + (dBitB z.d (rzP z)).toNat }
def rzH (z : RZ) : RZ :=
  if 1 < z.half then { z with d := dHalfS z.d, t := { z.t with d := 2 * z.t.d + dHalfB z.d }, half := z.half - 1 }
  else { z with d := dHalfS z.d, t := { z.t with d := 2 * z.t.d + dHalfB z.d + 1 }, half := z.half - 1, part := 0, todo := z.t.n, st := if (z.out.length : Int) < 2 * z.t.d + dHalfB z.d + 1 ∨ (z.total : Int) - z.out.length < z.t.n then 4 else z.st }
def bitR (z : RZ) : RZ :=
  if z.part = 0 then rzK z
  else if z.part = 1 then (if (dnF 1 256 z).2 < 0 then (dnF 1 256 z).1 else { (dnF 1 256 z).1 with t := { z.t with b := (dnF 1 256 z).2 }, todo := 1, part := 0 })
  else if z.part = 2 then (if (dnF 2 256 z).2 < 0 then (dnF 2 256 z).1 else { (dnF 2 256 z).1 with t := { z.t with n := (dnF 2 256 z).2 + 2 }, part := 3 })
  else if z.part = 3 then (if (dnF 3 64 z).2 < 0 then (dnF 3 64 z).1 else { (dnF 3 64 z).1 with t := { z.t with d := (dnF 3 64 z).2 }, half := 6, part := 4 })
  else rzH z
theorem dnS_part (j : Nat) (z : RZ) : (dnS j z).t = z.t ∧ (dnS j z).out = z.out ∧ (dnS j z).total = z.total ∧ (dnS j z).part = z.part ∧ (dnS j z).st = z.st ∧ (dnS j z).todo = z.todo ∧ (dnS j z).half = z.half := by
  unfold dnS RZ.sq; split <;> exact ⟨rfl, rfl, rfl, rfl, rfl, rfl, rfl⟩
theorem dnF_bd (j : Nat) (n : Int) (z : RZ) (h1 : 1 ≤ z.node) (h2 : z.node < n) : -1 ≤ (dnF j n z).2 ∧ (dnF j n z).2 < n ∧ (dnF j n z).1.t = z.t := by
  have b := dBitB_01 z.d (dnP j z)
  have e : (dnS j z).node = 2 * z.node + dBitB z.d (dnP j z) := rfl
  unfold dnF
  split
  · exact ⟨Int.le_refl _, by show (-1 : Int) < n; omega, (dnS_part j z).1⟩
  · rename_i h
    refine ⟨?_, ?_, (dnS_part j z).1⟩
    · show -1 ≤ (dnS j z).node - n; omega
    · show (dnS j z).node - n < n; omega
def ZbDone (w : World) (L : RZL) (v : Value) (z : RZ) (e : Ending) (w' : World) : Prop :=
  e = .returned (.tuple #[]) ∧ RZAt w' L v z ∧ Keeps (RZC L) w w'
set_option maxRecDepth 100000 in
set_option maxHeartbeats 1600000 in
theorem rlzbit_0 (L : RZL) (v : Value) (z : RZ) (w : World) (h : RZAt w L v z) (ok : RZOk z) (hp : z.part = 0) :
    Calls Try.prog 43 #[.pointer (some ⟨L.zb, 0, none⟩)] w (ZbDone w L v (rzK z)) := by
  have RA := Lib.hid h
  have OK := Lib.hid ok
  obtain ⟨o1, o2, o3, o4, o5, o6, o7⟩ := h.ord
  have r10 : w.cell? ⟨L.zb, 10, none⟩ = some (.int .i64 0) := by have := h.cc.cellD 10 _ rfl; rw [this, hp]; rfl
  clear h hp
  rcases ok.was with hwas | hwas
  · clear ok
    -- 1 was, 2 the chance's cell, 3 the chance's field
    have E1 : Hid (z.p0 = rzP z) := by show _ = _; unfold rzP; rw [hwas]; rfl
    have E2 : Hid (rzK z = { z with d := dBitS z.d (rzP z), p0 := dBitP z.d (rzP z), was := dBitB z.d (rzP z), t := ⟨0, 0, 0⟩, part := 1 + (dBitB z.d (rzP z)).toNat }) := by show _ = _; unfold rzK; rw [hwas]; rfl
    obtain ⟨p, hp⟩ : ∃ p, rzP z = p := ⟨_, rfl⟩
    rw [hp] at E1 E2
    have b01 := dBitB_01 z.d p
    obtain ⟨b, hb⟩ : ∃ b, dBitB z.d p = b := ⟨_, rfl⟩
    obtain ⟨pn, hpn⟩ : ∃ x, dBitP z.d p = x := ⟨_, rfl⟩
    have BIT := Lib.hid (fun w' (h' : DAt w' L.db 79 z.d) => rdbit_any L.db z.d p w' h' OK.out.dok.inv)
    rw [hb, hpn] at BIT
    rw [hb, hpn] at E2
    rw [hb] at b01
    obtain ⟨bn, rfl⟩ : ∃ bn : Nat, b = bn := ⟨b.toNat, by omega⟩
    have bn1 : bn ≤ 1 := by omega
    rw [Int.toNat_natCast] at E2
    have r3 : w.cell? ⟨L.zb, 3, none⟩ = some (.pointer (some ⟨L.db, 0, none⟩)) := RA.out.cc.cellD 3 _ rfl
    have r9 : w.cell? ⟨L.zb, 9, none⟩ = some (.int .i64 0) := by rw [← hwas]; exact RA.out.cc.cellD 9 _ rfl
    have rp : w.cell? ⟨L.zb, 7, none⟩ = some (.int .i64 p) := by rw [← E1.out]; exact RA.out.cc.cellD 7 _ rfl
    have WAS := Lib.hid hwas
    clear hp hb hpn hwas b01 E1
    go_enter Try.func43, Try.ntmps43
    go_wp2
    obtain ⟨mS, mh⟩ : ∃ S : World → Prop, ∀ w', S w' ↔ (w'.cell? ⟨L.zb, 3, none⟩ = some (.pointer (some ⟨L.db, 0, none⟩)) ∧ w'.cell? ⟨L.zb, 9, none⟩ = some (.int .i64 0) ∧ w'.cell? ⟨L.zb, 7, none⟩ = some (.int .i64 p)) := ⟨_, fun _ => Iff.rfl⟩
    have mk0 : ∀ x : Memb mS, x.at_.cell? ⟨L.zb, 3, none⟩ = some (.pointer (some ⟨L.db, 0, none⟩)) := fun x => ((mh _).1 x.is).1
    have mk1 : ∀ x : Memb mS, x.at_.cell? ⟨L.zb, 9, none⟩ = some (.int .i64 0) := fun x => ((mh _).1 x.is).2.1
    have mk2 : ∀ x : Memb mS, x.at_.cell? ⟨L.zb, 7, none⟩ = some (.int .i64 p) := fun x => ((mh _).1 x.is).2.2
    have mn : Nonempty (Memb mS) := ⟨⟨(w).drew, (mh _).2 ⟨r3, r9, rp⟩⟩⟩
    have mH := Lib.hid mh
    clear mh
    refine wp_region_mix [13] (InS mS) (by kernel_rfl) (by kernel_rfl) (InS.mk ((mH.out _).2 ⟨r3, r9, rp⟩)) ?_
    refine wpMix_seg 13 (by kernel_rfl) (by decide) ?_
    simp only [List.take_succ_cons, List.take_zero, List.drop_succ_cons, List.drop_zero]
    repeat (go_big_quiet_step (fail))
    refine wpQuiet_nil ?_
    refine wpMix_eff (by kernel_rfl) ?_
    go_wp2_with fail
    refine (BIT.out _ RA.out.dc.drew).mono ?_
    rintro e w2 ⟨rfl, d2, k2⟩
    have D2 := Lib.hid d2
    have K2 := Lib.hid ((Keeps.refl (fun k => k = L.db) w).drew.trans k2 (T := fun k => k = L.db) (fun _ h => h) (fun _ _ h => h))
    have C2 := Lib.hid (K2.out.blk RA.out.cc (by show ¬ _ = _; omega))
    clear d2 k2
    have y9 : w2.cell? ⟨L.zb, 9, none⟩ = some (.int .i64 0) := by have := C2.out.cellD 9 _ rfl; rw [this, WAS.out]
    have yp := C2.out.cellD 7 _ rfl
    have fp := C2.out.frozen 7
    go_wp2
    refine MixK.on (InS.mk ((mH.out _).2 (⟨C2.out.cellD 3 _ rfl, y9, (by have := K2.out.cell (p := ⟨L.zb, 7, none⟩) RA.out.cc.lt (by show ¬ L.zb = L.db; omega); exact this.trans rp)⟩))) ?_
    refine wpMix_seg 5 (by kernel_rfl) (by decide) ?_
    simp only [List.take_succ_cons, List.take_zero, List.drop_succ_cons, List.drop_zero]
    repeat (go_big_quiet_step (fail))
    refine wpQuiet_nil ?_
    refine wpMix_nil ?_
    clear mk0 mk1 mk2 mn mH
    go_wp2
    obtain ⟨m2S, m2h⟩ : ∃ S : World → Prop, ∀ w', S w' ↔ (w'.cell? ⟨L.zb, 9, none⟩ = some (.int .i64 0)) := ⟨_, fun _ => Iff.rfl⟩
    have m2k0 : ∀ x : Memb m2S, x.at_.cell? ⟨L.zb, 9, none⟩ = some (.int .i64 0) := fun x => ((m2h _).1 x.is)
    have m2n : Nonempty (Memb m2S) := ⟨⟨(w2).drew, (m2h _).2 (y9)⟩⟩
    have m2H := Lib.hid m2h
    clear m2h
    refine wp_region_mix [9] (InS m2S) (by kernel_rfl) (by kernel_rfl) (InS.mk ((m2H.out _).2 (y9))) ?_
    refine wpMix_seg 9 (by kernel_rfl) (by decide) ?_
    simp only [List.take_succ_cons, List.take_zero, List.drop_succ_cons, List.drop_zero]
    repeat (go_big_quiet_step (fail))
    refine wpQuiet_nil ?_
    refine wpMix_eff (by kernel_rfl) ?_
    go_wp2
    refine MixK.last (by kernel_rfl) ?_
    refine wpMix_nil ?_
    clear m2k0 m2n m2H
    have RA2 : Hid (RZAt w2 L v { z with d := dBitS z.d p }) := by
      have r := RA.out
      exact ⟨C2.out, r.ow.keeps K2.out (fun b hb e => r.ow.notBelow (i := b) (by have e : b = L.db := e; omega) hb), D2.out, r.t1.keeps K2.out (by show ¬ _ = _; omega) (by show ¬ _ = _; omega), r.t2.keeps K2.out (by show ¬ _ = _; omega) (by show ¬ _ = _; omega), r.t3.keeps K2.out (by show ¬ _ = _; omega) (by show ¬ _ = _; omega), r.ord⟩
    have RA3 : Hid (RZAt (w2.setCell ⟨L.zb, 7, none⟩ (.int .i64 pn)).drew L v { z with d := dBitS z.d p, p0 := pn }) := (RA2.out.put (z' := { z with d := dBitS z.d p, p0 := pn }) 7 (.int .i64 pn) rfl rfl rfl rfl rfl rfl).later ((Keeps.refl None _).drew)
    have K3 : Hid (Keeps (RZC L) w (w2.setCell ⟨L.zb, 7, none⟩ (.int .i64 pn)).drew) := (RZC.put RA.out.ord (K2.out.mono (fun k _ e => by have e : k = L.db := e; exact ⟨by omega, by omega⟩)) 7 (.int .i64 pn)).drew
    obtain ⟨wm, hwm⟩ : ∃ x, (w2.setCell ⟨L.zb, 7, none⟩ (.int .i64 pn)).drew = x := ⟨_, rfl⟩
    rw [hwm] at RA3 K3
    rw [hwm]
    clear hwm y9 yp fp RA2 C2 D2 K2 BIT r3 r9 rp
    have y9 := RA3.out.cc.cellD 9 _ rfl
    have y10 := RA3.out.cc.cellD 10 _ rfl
    have y12 := RA3.out.cc.cellD 12 _ rfl
    have y13 := RA3.out.cc.cellD 13 _ rfl
    have y14 := RA3.out.cc.cellD 14 _ rfl
    have f9 := RA3.out.cc.frozen 9
    have f10 := RA3.out.cc.frozen 10
    have f12 := RA3.out.cc.frozen 12
    have f13 := RA3.out.cc.frozen 13
    have f14 := RA3.out.cc.frozen 14
    go_wp2
    go_end0
    refine ⟨rfl, ?_, RZC.put RA.out.ord (RZC.put RA.out.ord (RZC.put RA.out.ord (RZC.put RA.out.ord (RZC.put RA.out.ord K3.out _ _) _ _) _ _) _ _) _ _⟩
    rw [E2.out]
    exact ((((RA3.out.put (z' := { z with d := dBitS z.d p, p0 := pn, was := bn }) 9 _ rfl rfl rfl rfl rfl rfl).put (z' := { z with d := dBitS z.d p, p0 := pn, was := bn, t := ⟨0, z.t.d, z.t.b⟩ }) 12 _ rfl rfl rfl rfl rfl rfl).put (z' := { z with d := dBitS z.d p, p0 := pn, was := bn, t := ⟨0, 0, z.t.b⟩ }) 13 _ rfl rfl rfl rfl rfl rfl).put (z' := { z with d := dBitS z.d p, p0 := pn, was := bn, t := ⟨0, 0, 0⟩ }) 14 _ rfl rfl rfl rfl rfl rfl).put 10 _ rfl rfl rfl rfl rfl rfl
  · clear ok
    -- 1 was, 2 the chance's cell, 3 the chance's field
    have E1 : Hid (z.p1 = rzP z) := by show _ = _; unfold rzP; rw [hwas]; rfl
    have E2 : Hid (rzK z = { z with d := dBitS z.d (rzP z), p1 := dBitP z.d (rzP z), was := dBitB z.d (rzP z), t := ⟨0, 0, 0⟩, part := 1 + (dBitB z.d (rzP z)).toNat }) := by show _ = _; unfold rzK; rw [hwas]; rfl
    obtain ⟨p, hp⟩ : ∃ p, rzP z = p := ⟨_, rfl⟩
    rw [hp] at E1 E2
    have b01 := dBitB_01 z.d p
    obtain ⟨b, hb⟩ : ∃ b, dBitB z.d p = b := ⟨_, rfl⟩
    obtain ⟨pn, hpn⟩ : ∃ x, dBitP z.d p = x := ⟨_, rfl⟩
    have BIT := Lib.hid (fun w' (h' : DAt w' L.db 79 z.d) => rdbit_any L.db z.d p w' h' OK.out.dok.inv)
    rw [hb, hpn] at BIT
    rw [hb, hpn] at E2
    rw [hb] at b01
    obtain ⟨bn, rfl⟩ : ∃ bn : Nat, b = bn := ⟨b.toNat, by omega⟩
    have bn1 : bn ≤ 1 := by omega
    rw [Int.toNat_natCast] at E2
    have r3 : w.cell? ⟨L.zb, 3, none⟩ = some (.pointer (some ⟨L.db, 0, none⟩)) := RA.out.cc.cellD 3 _ rfl
    have r9 : w.cell? ⟨L.zb, 9, none⟩ = some (.int .i64 1) := by rw [← hwas]; exact RA.out.cc.cellD 9 _ rfl
    have rp : w.cell? ⟨L.zb, 8, none⟩ = some (.int .i64 p) := by rw [← E1.out]; exact RA.out.cc.cellD 8 _ rfl
    have WAS := Lib.hid hwas
    clear hp hb hpn hwas b01 E1
    go_enter Try.func43, Try.ntmps43
    go_wp2
    obtain ⟨mS, mh⟩ : ∃ S : World → Prop, ∀ w', S w' ↔ (w'.cell? ⟨L.zb, 3, none⟩ = some (.pointer (some ⟨L.db, 0, none⟩)) ∧ w'.cell? ⟨L.zb, 9, none⟩ = some (.int .i64 1) ∧ w'.cell? ⟨L.zb, 8, none⟩ = some (.int .i64 p)) := ⟨_, fun _ => Iff.rfl⟩
    have mk0 : ∀ x : Memb mS, x.at_.cell? ⟨L.zb, 3, none⟩ = some (.pointer (some ⟨L.db, 0, none⟩)) := fun x => ((mh _).1 x.is).1
    have mk1 : ∀ x : Memb mS, x.at_.cell? ⟨L.zb, 9, none⟩ = some (.int .i64 1) := fun x => ((mh _).1 x.is).2.1
    have mk2 : ∀ x : Memb mS, x.at_.cell? ⟨L.zb, 8, none⟩ = some (.int .i64 p) := fun x => ((mh _).1 x.is).2.2
    have mn : Nonempty (Memb mS) := ⟨⟨(w).drew, (mh _).2 ⟨r3, r9, rp⟩⟩⟩
    have mH := Lib.hid mh
    clear mh
    refine wp_region_mix [13] (InS mS) (by kernel_rfl) (by kernel_rfl) (InS.mk ((mH.out _).2 ⟨r3, r9, rp⟩)) ?_
    refine wpMix_seg 13 (by kernel_rfl) (by decide) ?_
    simp only [List.take_succ_cons, List.take_zero, List.drop_succ_cons, List.drop_zero]
    repeat (go_big_quiet_step (fail))
    refine wpQuiet_nil ?_
    refine wpMix_eff (by kernel_rfl) ?_
    go_wp2_with fail
    refine (BIT.out _ RA.out.dc.drew).mono ?_
    rintro e w2 ⟨rfl, d2, k2⟩
    have D2 := Lib.hid d2
    have K2 := Lib.hid ((Keeps.refl (fun k => k = L.db) w).drew.trans k2 (T := fun k => k = L.db) (fun _ h => h) (fun _ _ h => h))
    have C2 := Lib.hid (K2.out.blk RA.out.cc (by show ¬ _ = _; omega))
    clear d2 k2
    have y9 : w2.cell? ⟨L.zb, 9, none⟩ = some (.int .i64 1) := by have := C2.out.cellD 9 _ rfl; rw [this, WAS.out]
    have yp := C2.out.cellD 8 _ rfl
    have fp := C2.out.frozen 8
    go_wp2
    refine MixK.on (InS.mk ((mH.out _).2 (⟨C2.out.cellD 3 _ rfl, y9, (by have := K2.out.cell (p := ⟨L.zb, 8, none⟩) RA.out.cc.lt (by show ¬ L.zb = L.db; omega); exact this.trans rp)⟩))) ?_
    refine wpMix_seg 5 (by kernel_rfl) (by decide) ?_
    simp only [List.take_succ_cons, List.take_zero, List.drop_succ_cons, List.drop_zero]
    repeat (go_big_quiet_step (fail))
    refine wpQuiet_nil ?_
    refine wpMix_nil ?_
    clear mk0 mk1 mk2 mn mH
    go_wp2
    obtain ⟨m2S, m2h⟩ : ∃ S : World → Prop, ∀ w', S w' ↔ (w'.cell? ⟨L.zb, 9, none⟩ = some (.int .i64 1)) := ⟨_, fun _ => Iff.rfl⟩
    have m2k0 : ∀ x : Memb m2S, x.at_.cell? ⟨L.zb, 9, none⟩ = some (.int .i64 1) := fun x => ((m2h _).1 x.is)
    have m2n : Nonempty (Memb m2S) := ⟨⟨(w2).drew, (m2h _).2 (y9)⟩⟩
    have m2H := Lib.hid m2h
    clear m2h
    refine wp_region_mix [9] (InS m2S) (by kernel_rfl) (by kernel_rfl) (InS.mk ((m2H.out _).2 (y9))) ?_
    refine wpMix_seg 9 (by kernel_rfl) (by decide) ?_
    simp only [List.take_succ_cons, List.take_zero, List.drop_succ_cons, List.drop_zero]
    repeat (go_big_quiet_step (fail))
    refine wpQuiet_nil ?_
    refine wpMix_eff (by kernel_rfl) ?_
    go_wp2
    refine MixK.last (by kernel_rfl) ?_
    refine wpMix_nil ?_
    clear m2k0 m2n m2H
    have RA2 : Hid (RZAt w2 L v { z with d := dBitS z.d p }) := by
      have r := RA.out
      exact ⟨C2.out, r.ow.keeps K2.out (fun b hb e => r.ow.notBelow (i := b) (by have e : b = L.db := e; omega) hb), D2.out, r.t1.keeps K2.out (by show ¬ _ = _; omega) (by show ¬ _ = _; omega), r.t2.keeps K2.out (by show ¬ _ = _; omega) (by show ¬ _ = _; omega), r.t3.keeps K2.out (by show ¬ _ = _; omega) (by show ¬ _ = _; omega), r.ord⟩
    have RA3 : Hid (RZAt (w2.setCell ⟨L.zb, 8, none⟩ (.int .i64 pn)).drew L v { z with d := dBitS z.d p, p1 := pn }) := (RA2.out.put (z' := { z with d := dBitS z.d p, p1 := pn }) 8 (.int .i64 pn) rfl rfl rfl rfl rfl rfl).later ((Keeps.refl None _).drew)
    have K3 : Hid (Keeps (RZC L) w (w2.setCell ⟨L.zb, 8, none⟩ (.int .i64 pn)).drew) := (RZC.put RA.out.ord (K2.out.mono (fun k _ e => by have e : k = L.db := e; exact ⟨by omega, by omega⟩)) 8 (.int .i64 pn)).drew
    obtain ⟨wm, hwm⟩ : ∃ x, (w2.setCell ⟨L.zb, 8, none⟩ (.int .i64 pn)).drew = x := ⟨_, rfl⟩
    rw [hwm] at RA3 K3
    rw [hwm]
    clear hwm y9 yp fp RA2 C2 D2 K2 BIT r3 r9 rp
    have y9 := RA3.out.cc.cellD 9 _ rfl
    have y10 := RA3.out.cc.cellD 10 _ rfl
    have y12 := RA3.out.cc.cellD 12 _ rfl
    have y13 := RA3.out.cc.cellD 13 _ rfl
    have y14 := RA3.out.cc.cellD 14 _ rfl
    have f9 := RA3.out.cc.frozen 9
    have f10 := RA3.out.cc.frozen 10
    have f12 := RA3.out.cc.frozen 12
    have f13 := RA3.out.cc.frozen 13
    have f14 := RA3.out.cc.frozen 14
    go_wp2
    go_end0
    refine ⟨rfl, ?_, RZC.put RA.out.ord (RZC.put RA.out.ord (RZC.put RA.out.ord (RZC.put RA.out.ord (RZC.put RA.out.ord K3.out _ _) _ _) _ _) _ _) _ _⟩
    rw [E2.out]
    exact ((((RA3.out.put (z' := { z with d := dBitS z.d p, p1 := pn, was := bn }) 9 _ rfl rfl rfl rfl rfl rfl).put (z' := { z with d := dBitS z.d p, p1 := pn, was := bn, t := ⟨0, z.t.d, z.t.b⟩ }) 12 _ rfl rfl rfl rfl rfl rfl).put (z' := { z with d := dBitS z.d p, p1 := pn, was := bn, t := ⟨0, 0, z.t.b⟩ }) 13 _ rfl rfl rfl rfl rfl rfl).put (z' := { z with d := dBitS z.d p, p1 := pn, was := bn, t := ⟨0, 0, 0⟩ }) 14 _ rfl rfl rfl rfl rfl rfl).put 10 _ rfl rfl rfl rfl rfl rfl
set_option maxRecDepth 100000 in
set_option maxHeartbeats 1600000 in
theorem rlzbit_1 (L : RZL) (v : Value) (z : RZ) (w : World) (h : RZAt w L v z) (ok : RZOk z) (hp : z.part = 1) :
    Calls Try.prog 43 #[.pointer (some ⟨L.zb, 0, none⟩)] w (ZbDone w L v (bitR z)) := by
  have RA := Lib.hid h
  have OK := Lib.hid ok
  have HP := Lib.hid hp
  obtain ⟨o1, o2, o3, o4, o5, o6, o7⟩ := h.ord
  have r10 : w.cell? ⟨L.zb, 10, none⟩ = some (.int .i64 1) := by have := h.cc.cellD 10 _ rfl; rw [this, hp]; rfl
  have RES : Hid (bitR z = if (dnF 1 256 z).2 < 0 then (dnF 1 256 z).1 else { (dnF 1 256 z).1 with t := { z.t with b := (dnF 1 256 z).2 }, todo := 1, part := 0 }) := by show _ = _; unfold bitR; rw [hp]; rfl
  -- the number of a tree: 1 its part, 2 down's contract, 3 which, 4 how many, 5 the tree's cell
  have bd := dnF_bd 1 256 z ok.n1 (by have := ok.n2; have := ok.n3; omega)
  have DN := Lib.hid (fun w' h' => rlzdown1_any L v z w' h' OK.out (by have := OK.out.n2; have := OK.out.n3; have := HP.out; omega))
  obtain ⟨⟨z2, n2⟩, hdn⟩ : ∃ x, dnF 1 256 z = x := ⟨_, rfl⟩
  rw [hdn] at bd DN RES
  dsimp only at bd RES
  obtain ⟨bd1, bd2, bd3⟩ := bd
  have HT := Lib.hid bd3
  have r5 := RA.out.cc.cellD 4 _ rfl
  clear h ok hp hdn bd3
  go_enter Try.func43, Try.ntmps43
  go_wp2_with fail
  refine (DN.out w RA.out).mono ?_
  rintro e w2 ⟨rfl, r2, k2⟩
  have RA2 := Lib.hid r2
  have K2 := Lib.hid k2
  clear r2 k2 DN r10 r5
  dsimp only at RA2 ⊢
  by_cases hneg : n2 < 0
  · obtain rfl : n2 = -1 := by omega
    have RES : Hid (bitR z = z2) := by show _ = _; rw [RES.out]; exact if_pos hneg
    -- behind down: 1 RES fact of the quiet end
    go_wp2
    go_end0
    exact ⟨rfl, by rw [RES.out]; exact RA2.out, K2.out⟩
  · have d5 : decide (0 ≤ n2) = true := decide_eq_true (by omega)
    have RES : Hid (bitR z = { z2 with t := { z.t with b := n2 }, todo := 1, part := 0 }) := by show _ = _; rw [RES.out]; exact if_neg hneg
    have n0 : 0 ≤ n2 := by omega
    have n255 : n2 ≤ 255 := by omega
    have y14 := RA2.out.cc.cellD 14 _ rfl
    have y16 := RA2.out.cc.cellD 16 _ rfl
    have y10 := RA2.out.cc.cellD 10 _ rfl
    have f14 := RA2.out.cc.frozen 14
    have f16 := RA2.out.cc.frozen 16
    have f10 := RA2.out.cc.frozen 10
    go_wp2
    go_end0
    refine ⟨rfl, ?_, RZC.put RA.out.ord (RZC.put RA.out.ord (RZC.put RA.out.ord K2.out _ _) _ _) _ _⟩
    rw [RES.out, ← HT.out]
    exact ((RA2.out.put (z' := { z2 with t := { z2.t with b := n2 } }) 14 _ rfl rfl rfl rfl rfl rfl).put (z' := { z2 with t := { z2.t with b := n2 }, todo := 1 }) 16 _ rfl rfl rfl rfl rfl rfl).put 10 _ rfl rfl rfl rfl rfl rfl
set_option maxRecDepth 100000 in
set_option maxHeartbeats 1600000 in
theorem rlzbit_2 (L : RZL) (v : Value) (z : RZ) (w : World) (h : RZAt w L v z) (ok : RZOk z) (hp : z.part = 2) :
    Calls Try.prog 43 #[.pointer (some ⟨L.zb, 0, none⟩)] w (ZbDone w L v (bitR z)) := by
  have RA := Lib.hid h
  have OK := Lib.hid ok
  have HP := Lib.hid hp
  obtain ⟨o1, o2, o3, o4, o5, o6, o7⟩ := h.ord
  have r10 : w.cell? ⟨L.zb, 10, none⟩ = some (.int .i64 2) := by have := h.cc.cellD 10 _ rfl; rw [this, hp]; rfl
  have RES : Hid (bitR z = if (dnF 2 256 z).2 < 0 then (dnF 2 256 z).1 else { (dnF 2 256 z).1 with t := { z.t with n := (dnF 2 256 z).2 + 2 }, part := 3 }) := by show _ = _; unfold bitR; rw [hp]; rfl
  -- the number of a tree: 1 its part, 2 down's contract, 3 which, 4 how many, 5 the tree's cell
  have bd := dnF_bd 2 256 z ok.n1 (by have := ok.n2; have := ok.n3; omega)
  have DN := Lib.hid (fun w' h' => rlzdown2_any L v z w' h' OK.out (by have := OK.out.n2; have := OK.out.n3; have := HP.out; omega))
  obtain ⟨⟨z2, n2⟩, hdn⟩ : ∃ x, dnF 2 256 z = x := ⟨_, rfl⟩
  rw [hdn] at bd DN RES
  dsimp only at bd RES
  obtain ⟨bd1, bd2, bd3⟩ := bd
  have HT := Lib.hid bd3
  have r5 := RA.out.cc.cellD 5 _ rfl
  clear h ok hp hdn bd3
  go_enter Try.func43, Try.ntmps43
  go_wp2_with fail
  refine (DN.out w RA.out).mono ?_
  rintro e w2 ⟨rfl, r2, k2⟩
  have RA2 := Lib.hid r2
  have K2 := Lib.hid k2
  clear r2 k2 DN r10 r5
  dsimp only at RA2 ⊢
  by_cases hneg : n2 < 0
  · obtain rfl : n2 = -1 := by omega
    have RES : Hid (bitR z = z2) := by show _ = _; rw [RES.out]; exact if_pos hneg
    -- behind down: 1 RES fact of the quiet end
    go_wp2
    go_end0
    exact ⟨rfl, by rw [RES.out]; exact RA2.out, K2.out⟩
  · have d5 : decide (0 ≤ n2) = true := decide_eq_true (by omega)
    have RES : Hid (bitR z = { z2 with t := { z.t with n := n2 + 2 }, part := 3 }) := by show _ = _; rw [RES.out]; exact if_neg hneg
    have n0 : 0 ≤ n2 := by omega
    have n255 : n2 ≤ 255 := by omega
    have y12 := RA2.out.cc.cellD 12 _ rfl
    have y10 := RA2.out.cc.cellD 10 _ rfl
    have f12 := RA2.out.cc.frozen 12
    have f10 := RA2.out.cc.frozen 10
    go_wp2
    go_end0
    refine ⟨rfl, ?_, RZC.put RA.out.ord (RZC.put RA.out.ord K2.out _ _) _ _⟩
    rw [RES.out, ← HT.out]
    exact (RA2.out.put (z' := { z2 with t := { z2.t with n := n2 + 2 } }) 12 _ rfl rfl rfl rfl rfl rfl).put 10 _ rfl rfl rfl rfl rfl rfl
set_option maxRecDepth 100000 in
set_option maxHeartbeats 1600000 in
theorem rlzbit_3 (L : RZL) (v : Value) (z : RZ) (w : World) (h : RZAt w L v z) (ok : RZOk z) (hp : z.part = 3) :
    Calls Try.prog 43 #[.pointer (some ⟨L.zb, 0, none⟩)] w (ZbDone w L v (bitR z)) := by
  have RA := Lib.hid h
  have OK := Lib.hid ok
  have HP := Lib.hid hp
  obtain ⟨o1, o2, o3, o4, o5, o6, o7⟩ := h.ord
  have r10 : w.cell? ⟨L.zb, 10, none⟩ = some (.int .i64 3) := by have := h.cc.cellD 10 _ rfl; rw [this, hp]; rfl
  have RES : Hid (bitR z = if (dnF 3 64 z).2 < 0 then (dnF 3 64 z).1 else { (dnF 3 64 z).1 with t := { z.t with d := (dnF 3 64 z).2 }, half := 6, part := 4 }) := by show _ = _; unfold bitR; rw [hp]; rfl
  -- the number of a tree: 1 its part, 2 down's contract, 3 which, 4 how many, 5 the tree's cell
  have bd := dnF_bd 3 64 z ok.n1 (by have := ok.n2; have := ok.n3; omega)
  have DN := Lib.hid (fun w' h' => rlzdown3_any L v z w' h' OK.out (by have := OK.out.n2; have := OK.out.n3; have := HP.out; omega))
  obtain ⟨⟨z2, n2⟩, hdn⟩ : ∃ x, dnF 3 64 z = x := ⟨_, rfl⟩
  rw [hdn] at bd DN RES
  dsimp only at bd RES
  obtain ⟨bd1, bd2, bd3⟩ := bd
  have HT := Lib.hid bd3
  have r5 := RA.out.cc.cellD 6 _ rfl
  clear h ok hp hdn bd3
  go_enter Try.func43, Try.ntmps43
  go_wp2_with fail
  refine (DN.out w RA.out).mono ?_
  rintro e w2 ⟨rfl, r2, k2⟩
  have RA2 := Lib.hid r2
  have K2 := Lib.hid k2
  clear r2 k2 DN r10 r5
  dsimp only at RA2 ⊢
  by_cases hneg : n2 < 0
  · obtain rfl : n2 = -1 := by omega
    have RES : Hid (bitR z = z2) := by show _ = _; rw [RES.out]; exact if_pos hneg
    -- behind down: 1 RES fact of the quiet end
    go_wp2
    go_end0
    exact ⟨rfl, by rw [RES.out]; exact RA2.out, K2.out⟩
  · have d5 : decide (0 ≤ n2) = true := decide_eq_true (by omega)
    have RES : Hid (bitR z = { z2 with t := { z.t with d := n2 }, half := 6, part := 4 }) := by show _ = _; rw [RES.out]; exact if_neg hneg
    have n0 : 0 ≤ n2 := by omega
    have n255 : n2 ≤ 255 := by omega
    have y13 := RA2.out.cc.cellD 13 _ rfl
    have y15 := RA2.out.cc.cellD 15 _ rfl
    have y10 := RA2.out.cc.cellD 10 _ rfl
    have f13 := RA2.out.cc.frozen 13
    have f15 := RA2.out.cc.frozen 15
    have f10 := RA2.out.cc.frozen 10
    go_wp2
    go_end0
    refine ⟨rfl, ?_, RZC.put RA.out.ord (RZC.put RA.out.ord (RZC.put RA.out.ord K2.out _ _) _ _) _ _⟩
    rw [RES.out, ← HT.out]
    exact ((RA2.out.put (z' := { z2 with t := { z2.t with d := n2 } }) 13 _ rfl rfl rfl rfl rfl rfl).put (z' := { z2 with t := { z2.t with d := n2 }, half := 6 }) 15 _ rfl rfl rfl rfl rfl rfl).put 10 _ rfl rfl rfl rfl rfl rfl
set_option maxRecDepth 100000 in
set_option maxHeartbeats 3200000 in
theorem rlzbit_4 (L : RZL) (v : Value) (z : RZ) (w : World) (h : RZAt w L v z) (ok : RZOk z) (hp : z.part = 4) :
    Calls Try.prog 43 #[.pointer (some ⟨L.zb, 0, none⟩)] w (ZbDone w L v (bitR z)) := by
  obtain ⟨A, cp, rfl, bso, -⟩ := h.ow.shape
  have oml := bso.le
  have omx := bso.max
  have RA := Lib.hid h
  have OK := Lib.hid ok
  obtain ⟨o1, o2, o3, o4, o5, o6, o7⟩ := h.ord
  have r10 : w.cell? ⟨L.zb, 10, none⟩ = some (.int .i64 4) := by have := h.cc.cellD 10 _ rfl; rw [this, hp]; rfl
  have RES0 : Hid (bitR z = rzH z) := by show _ = _; unfold bitR; rw [hp]; rfl
  obtain ⟨h1, h6, td0, td4, tnb⟩ := ok.h0 hp
  obtain ⟨td, htd⟩ : ∃ td, z.t.d = td := ⟨_, rfl⟩
  obtain ⟨tn, htn⟩ : ∃ tn, z.t.n = tn := ⟨_, rfl⟩
  obtain ⟨hf, hhf⟩ : ∃ hf, z.half = hf := ⟨_, rfl⟩
  have olb := ok.ol
  have ttb := ok.t8
  rw [htd] at td0 td4
  rw [hhf] at h1 h6
  rw [htn] at tnb
  have b01 := dHalfB_01 z.d
  obtain ⟨b, hb⟩ : ∃ b, dHalfB z.d = b := ⟨_, rfl⟩
  have HALF := Lib.hid (fun w' (h' : DAt w' L.db 79 z.d) => rdhalf_any L.db z.d w' h' OK.out.dok.inv)
  rw [hb] at HALF b01
  have RES : Hid (bitR z = if 1 < hf then { z with d := dHalfS z.d, t := ⟨tn, 2 * td + b, z.t.b⟩, half := hf - 1 } else { z with d := dHalfS z.d, t := ⟨tn, 2 * td + b + 1, z.t.b⟩, half := hf - 1, part := 0, todo := tn, st := if (z.out.length : Int) < 2 * td + b + 1 ∨ (z.total : Int) - z.out.length < tn then 4 else z.st }) := by
    show _ = _
    rw [RES0.out]; unfold rzH; rw [hhf, htd, htn, hb, ← htn]
  have r3 := h.cc.cellD 3 _ rfl
  have r13 : w.cell? ⟨L.zb, 13, none⟩ = some (.int .i64 td) := by rw [← htd]; exact h.cc.cellD 13 _ rfl
  have TD := Lib.hid htd
  have TN := Lib.hid htn
  have HF := Lib.hid hhf
  clear h ok hp htd htn hhf hb RES0 bso
  go_enter Try.func43, Try.ntmps43
  go_wp2
  obtain ⟨mS, mh⟩ : ∃ S : World → Prop, ∀ w', S w' ↔ (w'.cell? ⟨L.zb, 3, none⟩ = some (.pointer (some ⟨L.db, 0, none⟩)) ∧ w'.cell? ⟨L.zb, 13, none⟩ = some (.int .i64 td)) := ⟨_, fun _ => Iff.rfl⟩
  have mk0 : ∀ x : Memb mS, x.at_.cell? ⟨L.zb, 3, none⟩ = some (.pointer (some ⟨L.db, 0, none⟩)) := fun x => ((mh _).1 x.is).1
  have mk1 : ∀ x : Memb mS, x.at_.cell? ⟨L.zb, 13, none⟩ = some (.int .i64 td) := fun x => ((mh _).1 x.is).2
  have mn : Nonempty (Memb mS) := ⟨⟨(w).drew, (mh _).2 ⟨r3, r13⟩⟩⟩
  have mH := Lib.hid mh
  clear mh
  refine wp_region_mix [11, 16] (InS mS) (by kernel_rfl) (by kernel_rfl) (InS.mk ((mH.out _).2 ⟨r3, r13⟩)) ?_
  refine wpMix_seg 11 (by kernel_rfl) (by decide) ?_
  simp only [List.take_succ_cons, List.take_zero, List.drop_succ_cons, List.drop_zero]
  repeat (go_big_quiet_step (fail))
  refine wpQuiet_nil ?_
  refine wpMix_eff (by kernel_rfl) ?_
  go_wp2_with fail
  refine (HALF.out _ RA.out.dc.drew).mono ?_
  rintro e w2 ⟨rfl, d2, k2⟩
  have D2 := Lib.hid d2
  have K2 := Lib.hid ((Keeps.refl (fun k => k = L.db) w).drew.trans k2 (T := fun k => k = L.db) (fun _ h => h) (fun _ _ h => h))
  have C2 := Lib.hid (K2.out.blk RA.out.cc (by show ¬ _ = _; omega))
  clear d2 k2
  have y13 : w2.cell? ⟨L.zb, 13, none⟩ = some (.int .i64 td) := by rw [← TD.out]; exact C2.out.cellD 13 _ rfl
  have f13 := C2.out.frozen 13
  go_wp2
  refine MixK.on (InS.mk ((mH.out _).2 (⟨C2.out.cellD 3 _ rfl, y13⟩))) ?_
  refine wpMix_seg 4 (by kernel_rfl) (by decide) ?_
  simp only [List.take_succ_cons, List.take_zero, List.drop_succ_cons, List.drop_zero]
  repeat (go_big_quiet_step (fail))
  refine wpQuiet_nil ?_
  refine wpMix_eff (by kernel_rfl) ?_
  go_wp2
  refine MixK.last (by kernel_rfl) ?_
  refine wpMix_nil ?_
  clear mk0 mk1 mn mH
  have RA2 : Hid (RZAt w2 L (.slice A z.out.length cp) { z with d := dHalfS z.d }) := by
    have r := RA.out
    exact ⟨C2.out, r.ow.keeps K2.out (fun b hb e => r.ow.notBelow (i := b) (by have e : b = L.db := e; omega) hb), D2.out, r.t1.keeps K2.out (by show ¬ _ = _; omega) (by show ¬ _ = _; omega), r.t2.keeps K2.out (by show ¬ _ = _; omega) (by show ¬ _ = _; omega), r.t3.keeps K2.out (by show ¬ _ = _; omega) (by show ¬ _ = _; omega), r.ord⟩
  have RA3 : Hid (RZAt (w2.setCell ⟨L.zb, 13, none⟩ (.int .i64 (2 * td + b))) L (.slice A z.out.length cp) { z with d := dHalfS z.d, t := { z.t with d := 2 * td + b } }) := RA2.out.put (z' := { z with d := dHalfS z.d, t := { z.t with d := 2 * td + b } }) 13 _ rfl rfl rfl rfl rfl rfl
  have K3 : Hid (Keeps (RZC L) w (w2.setCell ⟨L.zb, 13, none⟩ (.int .i64 (2 * td + b)))) := (RZC.put RA.out.ord (K2.out.mono (fun k _ e => by have e : k = L.db := e; exact ⟨by omega, by omega⟩)) 13 (.int .i64 (2 * td + b)))
  obtain ⟨wm, hwm⟩ : ∃ x, (w2.setCell ⟨L.zb, 13, none⟩ (.int .i64 (2 * td + b))) = x := ⟨_, rfl⟩
  rw [hwm] at RA3 K3
  rw [hwm]
  clear hwm y13 f13 RA2 C2 D2 K2 HALF r3 r13 r10
  have y15 : wm.cell? ⟨L.zb, 15, none⟩ = some (.int .i64 hf) := by rw [← HF.out]; exact RA3.out.cc.cellD 15 _ rfl
  have f15 := RA3.out.cc.frozen 15
  by_cases hone : 1 < hf
  · have d5 : decide (0 < hf - 1) = true := decide_eq_true (by omega)
    have RES : Hid (bitR z = { z with d := dHalfS z.d, t := ⟨tn, 2 * td + b, z.t.b⟩, half := hf - 1 }) := by show _ = _; rw [RES.out]; exact if_pos hone
    go_wp2
    go_end0
    refine ⟨rfl, ?_, RZC.put RA.out.ord K3.out _ _⟩
    rw [RES.out, ← TN.out]
    exact RA3.out.put 15 _ rfl rfl rfl rfl rfl rfl
  · obtain rfl : hf = 1 := by omega
    have y13 : wm.cell? ⟨L.zb, 13, none⟩ = some (.int .i64 (2 * td + b)) := RA3.out.cc.cellD 13 _ rfl
    have y12 : wm.cell? ⟨L.zb, 12, none⟩ = some (.int .i64 tn) := by rw [← TN.out]; exact RA3.out.cc.cellD 12 _ rfl
    have y10 := RA3.out.cc.cellD 10 _ rfl
    have y16 := RA3.out.cc.cellD 16 _ rfl
    have f13 := RA3.out.cc.frozen 13
    have f10 := RA3.out.cc.frozen 10
    have f16 := RA3.out.cc.frozen 16
    have RA4 := Lib.hid (show RZAt ((((wm.setCell ⟨L.zb, 15, none⟩ (.int .i64 0)).setCell ⟨L.zb, 13, none⟩ (.int .i64 (2 * td + b + 1))).setCell ⟨L.zb, 10, none⟩ (.int .i64 0)).setCell ⟨L.zb, 16, none⟩ (.int .i64 z.t.n)) L (.slice A z.out.length cp) { z with d := dHalfS z.d, t := ⟨z.t.n, 2 * td + b + 1, z.t.b⟩, half := 1 - 1, part := 0, todo := z.t.n } from (((RA3.out.put (z' := { z with d := dHalfS z.d, t := { z.t with d := 2 * td + b }, half := 0 }) 15 (.int .i64 0) rfl rfl rfl rfl rfl rfl).put (z' := { z with d := dHalfS z.d, t := { z.t with d := 2 * td + b + 1 }, half := 0 }) 13 (.int .i64 (2 * td + b + 1)) rfl rfl rfl rfl rfl rfl).put (z' := { z with d := dHalfS z.d, t := { z.t with d := 2 * td + b + 1 }, half := 0, part := 0 }) 10 (.int .i64 0) rfl rfl rfl rfl rfl rfl).put (z' := { z with d := dHalfS z.d, t := { z.t with d := 2 * td + b + 1 }, half := 0, part := 0, todo := z.t.n }) 16 (.int .i64 z.t.n) rfl rfl rfl rfl rfl rfl)
    have K4 := Lib.hid (RZC.put RA.out.ord (RZC.put RA.out.ord (RZC.put RA.out.ord (RZC.put RA.out.ord K3.out 15 (.int .i64 0)) 13 (.int .i64 (2 * td + b + 1))) 10 (.int .i64 0)) 16 (.int .i64 z.t.n))
    rw [TN.out] at RA4 K4
    go_wp2_with fail
    obtain ⟨w5, hw5⟩ : ∃ x, (((wm.setCell ⟨L.zb, 15, none⟩ (.int .i64 0)).setCell ⟨L.zb, 13, none⟩ (.int .i64 (2 * td + b + 1))).setCell ⟨L.zb, 10, none⟩ (.int .i64 0)).setCell ⟨L.zb, 16, none⟩ (.int .i64 tn) = x := ⟨_, rfl⟩
    rw [hw5] at RA4 K4
    rw [hw5]
    clear hw5 y15 f15 y13 y12 y10 y16 f13 f10 f16 RA3 K3
    obtain ⟨ol, hol⟩ : ∃ ol, z.out.length = ol := ⟨_, rfl⟩
    obtain ⟨to, hto⟩ : ∃ to, z.total = to := ⟨_, rfl⟩
    rw [hol, hto] at RES
    rw [hol] at RA4 oml olb
    rw [hto] at ttb
    have c13 : w5.cell? ⟨L.zb, 13, none⟩ = some (.int .i64 (2 * td + b + 1)) := RA4.out.cc.cellD 13 _ rfl
    have c12 : w5.cell? ⟨L.zb, 12, none⟩ = some (.int .i64 tn) := RA4.out.cc.cellD 12 (.int .i64 tn) rfl
    have c2 : w5.cell? ⟨L.zb, 2, none⟩ = some (.slice A ol cp) := RA4.out.cc.cellD 2 _ rfl
    have c0 : w5.cell? ⟨L.zb, 0, none⟩ = some (.int .i64 (to : Int)) := by rw [← hto]; exact RA4.out.cc.cellD 0 (.int .i64 (z.total : Int)) rfl
    have c1 := RA4.out.cc.cellD 1 _ rfl
    have f1 := RA4.out.cc.frozen 1
    rw [hol]
    have HOL := Lib.hid hol
    have HTO := Lib.hid hto
    clear hol hto
    by_cases g1 : (ol : Int) < 2 * td + b + 1
    · have RES : Hid (bitR z = { z with d := dHalfS z.d, t := ⟨tn, 2 * td + b + 1, z.t.b⟩, half := 1 - 1, part := 0, todo := tn, st := 4 }) := by show _ = _; rw [RES.out, if_neg (by decide), if_pos (.inl g1), HTO.out]
      have q1 : decide ((ol : Int) < 2 * td + b + 1) = true := decide_eq_true g1
      go_quiet (fail)
      go_wp2
      go_end0
      refine ⟨rfl, ?_, RZC.put RA.out.ord (K4.out.drewN _) _ _⟩
      rw [RES.out, HOL.out]
      exact (RA4.out.later ((Keeps.refl None w5).drewN _)).put 1 _ rfl rfl rfl rfl rfl rfl
    · have q1 : decide ((ol : Int) < 2 * td + b + 1) = false := decide_eq_false g1
      by_cases g2 : (to : Int) - ol < tn
      · have RES : Hid (bitR z = { z with d := dHalfS z.d, t := ⟨tn, 2 * td + b + 1, z.t.b⟩, half := 1 - 1, part := 0, todo := tn, st := 4 }) := by show _ = _; rw [RES.out, if_neg (by decide), if_pos (.inr g2), HTO.out]
        have q2 : decide ((to : Int) - ol < tn) = true := decide_eq_true g2
        go_quiet (fail)
        go_wp2
        go_end0
        refine ⟨rfl, ?_, RZC.put RA.out.ord (K4.out.drewN _) _ _⟩
        rw [RES.out, HOL.out]
        exact (RA4.out.later ((Keeps.refl None w5).drewN _)).put 1 _ rfl rfl rfl rfl rfl rfl
      · have RES : Hid (bitR z = { z with d := dHalfS z.d, t := ⟨tn, 2 * td + b + 1, z.t.b⟩, half := 1 - 1, part := 0, todo := tn }) := by show _ = _; rw [RES.out, if_neg (by decide), if_neg (by omega), HTO.out]
        have q2 : decide ((to : Int) - ol < tn) = false := decide_eq_false g2
        go_quiet (fail)
        go_wp2
        go_end0
        refine ⟨rfl, ?_, K4.out.drewN _⟩
        rw [RES.out, HOL.out]
        exact RA4.out.later ((Keeps.refl None w5).drewN _)
theorem rlzbit_any (L : RZL) (v : Value) (z : RZ) (w : World) (h : RZAt w L v z) (ok : RZOk z) :
    Calls Try.prog 43 #[.pointer (some ⟨L.zb, 0, none⟩)] w (ZbDone w L v (bitR z)) := by
  have hp := ok.part
  obtain h0 | h1 | h2 | h3 | h4 : z.part = 0 ∨ z.part = 1 ∨ z.part = 2 ∨ z.part = 3 ∨ z.part = 4 := by omega
  · have e : bitR z = rzK z := by unfold bitR; rw [h0]; rfl
    rw [e]
    exact rlzbit_0 L v z w h ok h0
  · exact rlzbit_1 L v z w h ok h1
  · exact rlzbit_2 L v z w h ok h2
  · exact rlzbit_3 L v z w h ok h3
  · exact rlzbit_4 L v z w h ok h4
end Go.Proofs.Ytnanbnaikmaljaa
