/- The reference's reader: the walk of tree. -/
import Derived.Test.YtggjdkkobhefeaaRR
namespace Go.Proofs.Ytggjdkkobhefeaa
open Go.RowKit

def RS.q (s : RS) : Nat → List Int
  | 1 => s.q1
  | 2 => s.q2
  | _ => s.q3
def RS.sq (s : RS) (q : List Int) : Nat → RS
  | 1 => { s with q1 := q }
  | 2 => { s with q2 := q }
  | _ => { s with q3 := q }
/-- A bit of a tree's number. -/
def trPR (s : RS) (j : Nat) (node : Int) : Int := (s.q j).getD node.toNat 0
def trS (j : Nat) (s : RS) (node : Int) : RS := moreF ({ (s.sq (turnN (s.q j) node (dBitB s.d (trPR s j node))) j) with d := dBitS s.d (trPR s j node) })
def trF (j : Nat) : Nat → RS → Int → RS × Int
  | 0, s, node => (s, node)
  | i + 1, s, node => trF j i (trS j s node) (2 * node + dBitB s.d (trPR s j node))
theorem ROkR.tr {s : RS} (h : ROkR s) (j : Nat) (node : Int) : ROkR (trS j s node) := by
  refine ROkR.more ?_
  match j with
  | 1 => exact ⟨h.dok.bit _, h.zb, by show (turnN _ _ _).length = 256; rw [turnN_length]; exact h.l1, h.l2, h.l3, h.was⟩
  | 2 => exact ⟨h.dok.bit _, h.zb, h.l1, by show (turnN _ _ _).length = 256; rw [turnN_length]; exact h.l2, h.l3, h.was⟩
  | 0 => exact ⟨h.dok.bit _, h.zb, h.l1, h.l2, by show (turnN _ _ _).length = 64; rw [turnN_length]; exact h.l3, h.was⟩
  | _ + 3 => exact ⟨h.dok.bit _, h.zb, h.l1, h.l2, by show (turnN _ _ _).length = 64; rw [turnN_length]; exact h.l3, h.was⟩
theorem trF_ok (j : Nat) : ∀ (i : Nat) (s : RS) (node : Int), ROkR s → ROkR (trF j i s node).1
  | 0, _, _, h => h
  | i + 1, _, node, h => trF_ok j i _ _ (h.tr j node)
def TreeDone (w : World) (L : RRL) (s : RS) (v : Int) (e : Ending) (w' : World) : Prop :=
  ∃ A n c, e = .returned (.int .i64 v) ∧ RRAt w' L s A n c ∧ Keeps (RRB L) w w'
-- rtree1_any name, 1 which, b1 its struct, g1 its row, 8 bits, 256 how many, t1 RRAt's field, l1 ROkR's field, q1 the list
set_option maxRecDepth 100000 in
set_option maxHeartbeats 1600000 in
theorem rtree1_any (L : RRL) (s : RS) (A : Option Addr) (n c : Nat) (w : World) (h : RRAt w L s A n c) (ok : ROkR s) :
    Calls Try.prog 90 #[.pointer (some ⟨L.rb, 0, none⟩), .pointer (some ⟨L.b1, 0, none⟩)] w (TreeDone w L (trF 1 8 s 1).1 ((trF 1 8 s 1).2 - 256)) := by
  obtain ⟨⟨rs, rn⟩, hres⟩ : ∃ x, trF 1 8 s 1 = x := ⟨_, rfl⟩
  rw [hres]
  have START := Lib.hid (show RRAt w L s A n c ∧ ROkR s ∧ trF 1 8 s 1 = (rs, rn) from ⟨h, ok, hres⟩)
  clear h ok hres
  go_enter Try.func90, Try.ntmps90
  go_wp2
  go_loopw [5, 6] (fun nv iv wr => ∃ (i nd n' c' : Nat) (s' : RS) (A' : Option Addr), i ≤ 8 ∧ iv = .int .i64 (i : Int) ∧ nv = .int .i64 (nd : Int) ∧ 1 ≤ nd ∧ nd < 2 ^ (i + 1) ∧ trF 1 (8 - i) s' nd = (rs, rn) ∧ RRAt wr L s' A' n' c' ∧ ROkR s' ∧ Keeps (RRB L) w wr) (fun _ iv _ => 8 - (intOf iv).toNat)
  case atStart => exact ⟨0, 1, n, c, s, A, by decide, rfl, rfl, by decide, by decide, START.out.2.2, START.out.1, START.out.2.1, Keeps.refl _ _⟩
  case round =>
    clear START s A n c
    obtain ⟨i, nd, n', c', s, A, hi, rfl, rfl, h1, h2, hf, hra, hok, hk⟩ := hrel
    obtain ⟨wv, rfl⟩ : ∃ x, x = wr := ⟨_, rfl⟩
    have RA := Lib.hid hra
    have OK := Lib.hid hok
    have HK := Lib.hid hk
    have ord := hra.ord
    have ORD := Lib.hid ord
    have t0 := hra.t1.1.cellD 0 _ rfl
    have hlen : s.q1.length = 256 := hok.l1
    have t1 : wv.cell? ⟨L.b1, 1, none⟩ = some (.slice (some ⟨L.g1, 0, none⟩) 256 256) := by have := hra.t1.1.cellD 1 _ rfl; rw [hlen] at this; exact this
    have r0 := hra.cc.cellD 0 _ rfl
    by_cases hlt : i < 8
    · obtain ⟨k, hk5⟩ : ∃ k, 8 - i = k + 1 := ⟨8 - i - 1, by omega⟩
      have hnd : nd < 256 := Nat.lt_of_lt_of_le h2 (by
        have : 2 ^ (i + 1) ≤ 2 ^ 8 := Nat.pow_le_pow_right (by decide) (by omega)
        exact this)
      have h512 : nd < 256 := by omega
      obtain ⟨p, hp⟩ : ∃ p, s.q1.getD nd 0 = p := ⟨_, rfl⟩
      have tp : wv.cell? ⟨L.g1, nd, none⟩ = some (.int .i64 p) := by rw [← hp]; exact hra.t1.2.1.cellD nd _ (map_getD 0 (by rw [hlen]; exact hnd))
      obtain ⟨b, hb⟩ : ∃ b, dBitB s.d p = b := ⟨_, rfl⟩
      have b01 := dBitB_01 s.d p
      rw [hb] at b01
      have tpe : trPR s 1 (nd : Int) = p := by show s.q1.getD ((nd : Int)).toNat 0 = p; rw [Int.toNat_natCast]; exact hp
      have hs : trS 1 s (nd : Int) = moreF { s with d := dBitS s.d p, q1 := turnN s.q1 nd b } := by unfold trS; rw [tpe, hb]; rfl
      have okS : ROkR { s with d := dBitS s.d p, q1 := turnN s.q1 nd b } := by
        obtain ⟨a1, a2, a3, a4, a5, a6⟩ := hok
        refine ⟨a1.bit _, a2, ?_, ?_, ?_, a6⟩ <;> first | assumption | (show (turnN _ _ _).length = _; rw [turnN_length]; assumption)
      have RR9 : Hid (trF 1 k (moreF { s with d := dBitS s.d p, q1 := turnN s.q1 nd b }) (2 * (nd : Int) + b) = (rs, rn)) := by
        show _ = _
        rw [hk5] at hf
        have e : trF 1 (k + 1) s (nd : Int) = trF 1 k (trS 1 s nd) (2 * (nd : Int) + dBitB s.d (trPR s 1 nd)) := rfl
        rw [e, tpe, hb, hs] at hf
        exact hf
      have BIT := Lib.hid (fun w' (h' : DAt w' L.db 91 s.d) => rdbit_any L.db s.d p w' h' OK.out.dok.inv)
      rw [hb] at BIT
      have OKS := Lib.hid okS
      have OK9 := Lib.hid okS.more
      have K5 := Lib.hid hk5
      have P2 : Hid (nd < 2 ^ (i + 1)) := h2
      obtain ⟨bn, rfl⟩ : ∃ bn : Nat, b = bn := ⟨b.toNat, by omega⟩
      have bn1 : bn ≤ 1 := by omega
      have LN9 := Lib.hid hlen
      clear hra hok hk hf hp hb hs okS tpe b01 hk5 h2 hlen
      go_wp2
      obtain ⟨mS, mh⟩ : ∃ S : World → Prop, ∀ w', S w' ↔ (w'.cell? ⟨L.rb, 0, none⟩ = some (.pointer (some ⟨L.db, 0, none⟩)) ∧ w'.cell? ⟨L.b1, 1, none⟩ = some (.slice (some ⟨L.g1, 0, none⟩) 256 256) ∧ w'.cell? ⟨L.g1, nd, none⟩ = some (.int .i64 p)) := ⟨_, fun _ => Iff.rfl⟩
      have mk0 : ∀ x : Memb mS, x.at_.cell? ⟨L.rb, 0, none⟩ = some (.pointer (some ⟨L.db, 0, none⟩)) := fun x => ((mh _).1 x.is).1
      have mk1 : ∀ x : Memb mS, x.at_.cell? ⟨L.b1, 1, none⟩ = some (.slice (some ⟨L.g1, 0, none⟩) 256 256) := fun x => ((mh _).1 x.is).2.1
      have mk2 : ∀ x : Memb mS, x.at_.cell? ⟨L.g1, nd, none⟩ = some (.int .i64 p) := fun x => ((mh _).1 x.is).2.2
      have mn : Nonempty (Memb mS) := ⟨⟨(wv).drew, (mh _).2 ⟨r0, t1, tp⟩⟩⟩
      have mH := Lib.hid mh
      clear mh
      refine wp_region_mix [11] (InS mS) (by kernel_rfl) (by kernel_rfl) (InS.mk ((mH.out _).2 ⟨r0, t1, tp⟩)) ?_
      refine wpMix_seg 11 (by kernel_rfl) (by decide) ?_
      simp only [List.take_succ_cons, List.take_zero, List.drop_succ_cons, List.drop_zero]
      repeat (go_big_quiet_step (fail))
      refine wpQuiet_nil ?_
      refine wpMix_eff (by kernel_rfl) ?_
      go_wp2_with fail
      refine (BIT.out _ RA.out.dc.drew).mono ?_
      rintro e w2 ⟨rfl, d2, k2⟩
      have D2 := Lib.hid d2
      have K2 := Lib.hid ((Keeps.refl (fun k => k = L.db) wv).drew.trans k2 (T := fun k => k = L.db) (fun _ h => h) (fun _ _ h => h))
      have TR2 := Lib.hid (RA.out.t1.keeps K2.out (by show ¬ _ = _; omega) (by show ¬ _ = _; omega))
      have C2 := Lib.hid (K2.out.blk RA.out.cc (by show ¬ _ = _; omega))
      clear d2 k2
      go_wp2
      refine MixK.on (InS.mk ((mH.out _).2 (⟨C2.out.cellD 0 _ rfl, (by have := TR2.out.1.cellD 1 _ rfl; rw [LN9.out] at this; exact this), (K2.out.cell (p := ⟨L.g1, nd, none⟩) RA.out.t1.2.1.lt (by show ¬ L.g1 = L.db; omega)).trans tp⟩))) ?_
      refine wpMix_seg 5 (by kernel_rfl) (by decide) ?_
      simp only [List.take_succ_cons, List.take_zero, List.drop_succ_cons, List.drop_zero]
      repeat (go_big_quiet_step (fail))
      refine wpQuiet_nil ?_
      refine wpMix_nil ?_
      clear mk0 mk1 mk2 mn mH
      go_wp2_with fail
      refine (rturn_any L.b1 L.g1 8 s.q1 nd bn _ TR2.out (by rw [LN9.out]; decide)).mono ?_
      rintro e w3 ⟨rfl, tr3, k3⟩
      have K3 := Lib.hid k3
      have ord := ORD.out
      have r := RA.out
      have RA3 : Hid (RRAt w3 L { s with d := dBitS s.d p, q1 := turnN s.q1 nd bn } A n' c') :=
        ⟨k3.blk C2.out (by show ¬ _ = _; omega), (r.bs.keeps K2.out (fun b off h0 _ e h => by have := r.lb h0 b off e; have h : b = L.db := h; omega)).keeps k3 (fun b off h0 _ e h => by have := r.lb h0 b off e; have h : b = L.g1 := h; omega), r.lb, D2.out.keeps k3 (by show ¬ _ = _; omega), tr3, (r.t2.keeps K2.out (by show ¬ _ = _; omega) (by show ¬ _ = _; omega)).keeps k3 (by show ¬ _ = _; omega) (by show ¬ _ = _; omega), (r.t3.keeps K2.out (by show ¬ _ = _; omega) (by show ¬ _ = _; omega)).keeps k3 (by show ¬ _ = _; omega) (by show ¬ _ = _; omega), r.ord⟩
      have KW := Lib.hid ((HK.out.trans K2.out (T := RRB L) (fun _ h => h) (fun k _ e => by have e : k = L.db := e; subst e; exact ⟨Nat.le_refl _, by omega⟩)).trans k3 (T := RRB L) (fun _ h => h) (fun k _ e => by have e : k = L.g1 := e; subst e; exact ⟨by omega, by omega⟩))
      clear tr3 k3 D2 K2 TR2 C2 K3 r
      go_wp2_with fail
      refine (rmore_any L _ A n' c' w3 RA3.out OKS.out).mono ?_
      rintro e w4 ⟨A4, n4, c4, rfl, r4, k4⟩
      have R4 := Lib.hid r4
      have KX := Lib.hid (KW.out.trans k4 (T := RRB L) (fun _ h => h) (fun k _ e => by have e : k = L.db ∨ k = L.rb := e; exact ⟨by omega, by omega⟩))
      clear r4 k4
      go_wp2
      go_roundw
      case rel => exact ⟨i + 1, 2 * nd + bn, n4, c4, _, A4, hlt, by go_num, by go_num, by omega, by have := P2.out; rw [Nat.pow_succ]; omega, by have := RR9.out; rw [show 8 - (i + 1) = k by have := K5.out; omega]; exact this, R4.out, OK9.out, KX.out⟩
      case measure => simp [intOf]; omega
    · obtain rfl : i = 8 := by omega
      have e : (s, (nd : Int)) = (rs, rn) := hf
      cases e
      have e9 : nd < 2 * 256 := h2
      clear hra hok hk hf h2
      go_wp2
      go_ret
      exact ⟨A, n', c', rfl, RA.out, HK.out⟩
-- rtree2_any name, 2 which, b2 its struct, g2 its row, 8 bits, 256 how many, t2 RRAt's field, l2 ROkR's field, q2 the list
set_option maxRecDepth 100000 in
set_option maxHeartbeats 1600000 in
theorem rtree2_any (L : RRL) (s : RS) (A : Option Addr) (n c : Nat) (w : World) (h : RRAt w L s A n c) (ok : ROkR s) :
    Calls Try.prog 90 #[.pointer (some ⟨L.rb, 0, none⟩), .pointer (some ⟨L.b2, 0, none⟩)] w (TreeDone w L (trF 2 8 s 1).1 ((trF 2 8 s 1).2 - 256)) := by
  obtain ⟨⟨rs, rn⟩, hres⟩ : ∃ x, trF 2 8 s 1 = x := ⟨_, rfl⟩
  rw [hres]
  have START := Lib.hid (show RRAt w L s A n c ∧ ROkR s ∧ trF 2 8 s 1 = (rs, rn) from ⟨h, ok, hres⟩)
  clear h ok hres
  go_enter Try.func90, Try.ntmps90
  go_wp2
  go_loopw [5, 6] (fun nv iv wr => ∃ (i nd n' c' : Nat) (s' : RS) (A' : Option Addr), i ≤ 8 ∧ iv = .int .i64 (i : Int) ∧ nv = .int .i64 (nd : Int) ∧ 1 ≤ nd ∧ nd < 2 ^ (i + 1) ∧ trF 2 (8 - i) s' nd = (rs, rn) ∧ RRAt wr L s' A' n' c' ∧ ROkR s' ∧ Keeps (RRB L) w wr) (fun _ iv _ => 8 - (intOf iv).toNat)
  case atStart => exact ⟨0, 1, n, c, s, A, by decide, rfl, rfl, by decide, by decide, START.out.2.2, START.out.1, START.out.2.1, Keeps.refl _ _⟩
  case round =>
    clear START s A n c
    obtain ⟨i, nd, n', c', s, A, hi, rfl, rfl, h1, h2, hf, hra, hok, hk⟩ := hrel
    obtain ⟨wv, rfl⟩ : ∃ x, x = wr := ⟨_, rfl⟩
    have RA := Lib.hid hra
    have OK := Lib.hid hok
    have HK := Lib.hid hk
    have ord := hra.ord
    have ORD := Lib.hid ord
    have t0 := hra.t2.1.cellD 0 _ rfl
    have hlen : s.q2.length = 256 := hok.l2
    have t1 : wv.cell? ⟨L.b2, 1, none⟩ = some (.slice (some ⟨L.g2, 0, none⟩) 256 256) := by have := hra.t2.1.cellD 1 _ rfl; rw [hlen] at this; exact this
    have r0 := hra.cc.cellD 0 _ rfl
    by_cases hlt : i < 8
    · obtain ⟨k, hk5⟩ : ∃ k, 8 - i = k + 1 := ⟨8 - i - 1, by omega⟩
      have hnd : nd < 256 := Nat.lt_of_lt_of_le h2 (by
        have : 2 ^ (i + 1) ≤ 2 ^ 8 := Nat.pow_le_pow_right (by decide) (by omega)
        exact this)
      have h512 : nd < 256 := by omega
      obtain ⟨p, hp⟩ : ∃ p, s.q2.getD nd 0 = p := ⟨_, rfl⟩
      have tp : wv.cell? ⟨L.g2, nd, none⟩ = some (.int .i64 p) := by rw [← hp]; exact hra.t2.2.1.cellD nd _ (map_getD 0 (by rw [hlen]; exact hnd))
      obtain ⟨b, hb⟩ : ∃ b, dBitB s.d p = b := ⟨_, rfl⟩
      have b01 := dBitB_01 s.d p
      rw [hb] at b01
      have tpe : trPR s 2 (nd : Int) = p := by show s.q2.getD ((nd : Int)).toNat 0 = p; rw [Int.toNat_natCast]; exact hp
      have hs : trS 2 s (nd : Int) = moreF { s with d := dBitS s.d p, q2 := turnN s.q2 nd b } := by unfold trS; rw [tpe, hb]; rfl
      have okS : ROkR { s with d := dBitS s.d p, q2 := turnN s.q2 nd b } := by
        obtain ⟨a1, a2, a3, a4, a5, a6⟩ := hok
        refine ⟨a1.bit _, a2, ?_, ?_, ?_, a6⟩ <;> first | assumption | (show (turnN _ _ _).length = _; rw [turnN_length]; assumption)
      have RR9 : Hid (trF 2 k (moreF { s with d := dBitS s.d p, q2 := turnN s.q2 nd b }) (2 * (nd : Int) + b) = (rs, rn)) := by
        show _ = _
        rw [hk5] at hf
        have e : trF 2 (k + 1) s (nd : Int) = trF 2 k (trS 2 s nd) (2 * (nd : Int) + dBitB s.d (trPR s 2 nd)) := rfl
        rw [e, tpe, hb, hs] at hf
        exact hf
      have BIT := Lib.hid (fun w' (h' : DAt w' L.db 91 s.d) => rdbit_any L.db s.d p w' h' OK.out.dok.inv)
      rw [hb] at BIT
      have OKS := Lib.hid okS
      have OK9 := Lib.hid okS.more
      have K5 := Lib.hid hk5
      have P2 : Hid (nd < 2 ^ (i + 1)) := h2
      obtain ⟨bn, rfl⟩ : ∃ bn : Nat, b = bn := ⟨b.toNat, by omega⟩
      have bn1 : bn ≤ 1 := by omega
      have LN9 := Lib.hid hlen
      clear hra hok hk hf hp hb hs okS tpe b01 hk5 h2 hlen
      go_wp2
      obtain ⟨mS, mh⟩ : ∃ S : World → Prop, ∀ w', S w' ↔ (w'.cell? ⟨L.rb, 0, none⟩ = some (.pointer (some ⟨L.db, 0, none⟩)) ∧ w'.cell? ⟨L.b2, 1, none⟩ = some (.slice (some ⟨L.g2, 0, none⟩) 256 256) ∧ w'.cell? ⟨L.g2, nd, none⟩ = some (.int .i64 p)) := ⟨_, fun _ => Iff.rfl⟩
      have mk0 : ∀ x : Memb mS, x.at_.cell? ⟨L.rb, 0, none⟩ = some (.pointer (some ⟨L.db, 0, none⟩)) := fun x => ((mh _).1 x.is).1
      have mk1 : ∀ x : Memb mS, x.at_.cell? ⟨L.b2, 1, none⟩ = some (.slice (some ⟨L.g2, 0, none⟩) 256 256) := fun x => ((mh _).1 x.is).2.1
      have mk2 : ∀ x : Memb mS, x.at_.cell? ⟨L.g2, nd, none⟩ = some (.int .i64 p) := fun x => ((mh _).1 x.is).2.2
      have mn : Nonempty (Memb mS) := ⟨⟨(wv).drew, (mh _).2 ⟨r0, t1, tp⟩⟩⟩
      have mH := Lib.hid mh
      clear mh
      refine wp_region_mix [11] (InS mS) (by kernel_rfl) (by kernel_rfl) (InS.mk ((mH.out _).2 ⟨r0, t1, tp⟩)) ?_
      refine wpMix_seg 11 (by kernel_rfl) (by decide) ?_
      simp only [List.take_succ_cons, List.take_zero, List.drop_succ_cons, List.drop_zero]
      repeat (go_big_quiet_step (fail))
      refine wpQuiet_nil ?_
      refine wpMix_eff (by kernel_rfl) ?_
      go_wp2_with fail
      refine (BIT.out _ RA.out.dc.drew).mono ?_
      rintro e w2 ⟨rfl, d2, k2⟩
      have D2 := Lib.hid d2
      have K2 := Lib.hid ((Keeps.refl (fun k => k = L.db) wv).drew.trans k2 (T := fun k => k = L.db) (fun _ h => h) (fun _ _ h => h))
      have TR2 := Lib.hid (RA.out.t2.keeps K2.out (by show ¬ _ = _; omega) (by show ¬ _ = _; omega))
      have C2 := Lib.hid (K2.out.blk RA.out.cc (by show ¬ _ = _; omega))
      clear d2 k2
      go_wp2
      refine MixK.on (InS.mk ((mH.out _).2 (⟨C2.out.cellD 0 _ rfl, (by have := TR2.out.1.cellD 1 _ rfl; rw [LN9.out] at this; exact this), (K2.out.cell (p := ⟨L.g2, nd, none⟩) RA.out.t2.2.1.lt (by show ¬ L.g2 = L.db; omega)).trans tp⟩))) ?_
      refine wpMix_seg 5 (by kernel_rfl) (by decide) ?_
      simp only [List.take_succ_cons, List.take_zero, List.drop_succ_cons, List.drop_zero]
      repeat (go_big_quiet_step (fail))
      refine wpQuiet_nil ?_
      refine wpMix_nil ?_
      clear mk0 mk1 mk2 mn mH
      go_wp2_with fail
      refine (rturn_any L.b2 L.g2 8 s.q2 nd bn _ TR2.out (by rw [LN9.out]; decide)).mono ?_
      rintro e w3 ⟨rfl, tr3, k3⟩
      have K3 := Lib.hid k3
      have ord := ORD.out
      have r := RA.out
      have RA3 : Hid (RRAt w3 L { s with d := dBitS s.d p, q2 := turnN s.q2 nd bn } A n' c') :=
        ⟨k3.blk C2.out (by show ¬ _ = _; omega), (r.bs.keeps K2.out (fun b off h0 _ e h => by have := r.lb h0 b off e; have h : b = L.db := h; omega)).keeps k3 (fun b off h0 _ e h => by have := r.lb h0 b off e; have h : b = L.g2 := h; omega), r.lb, D2.out.keeps k3 (by show ¬ _ = _; omega), (r.t1.keeps K2.out (by show ¬ _ = _; omega) (by show ¬ _ = _; omega)).keeps k3 (by show ¬ _ = _; omega) (by show ¬ _ = _; omega), tr3, (r.t3.keeps K2.out (by show ¬ _ = _; omega) (by show ¬ _ = _; omega)).keeps k3 (by show ¬ _ = _; omega) (by show ¬ _ = _; omega), r.ord⟩
      have KW := Lib.hid ((HK.out.trans K2.out (T := RRB L) (fun _ h => h) (fun k _ e => by have e : k = L.db := e; subst e; exact ⟨Nat.le_refl _, by omega⟩)).trans k3 (T := RRB L) (fun _ h => h) (fun k _ e => by have e : k = L.g2 := e; subst e; exact ⟨by omega, by omega⟩))
      clear tr3 k3 D2 K2 TR2 C2 K3 r
      go_wp2_with fail
      refine (rmore_any L _ A n' c' w3 RA3.out OKS.out).mono ?_
      rintro e w4 ⟨A4, n4, c4, rfl, r4, k4⟩
      have R4 := Lib.hid r4
      have KX := Lib.hid (KW.out.trans k4 (T := RRB L) (fun _ h => h) (fun k _ e => by have e : k = L.db ∨ k = L.rb := e; exact ⟨by omega, by omega⟩))
      clear r4 k4
      go_wp2
      go_roundw
      case rel => exact ⟨i + 1, 2 * nd + bn, n4, c4, _, A4, hlt, by go_num, by go_num, by omega, by have := P2.out; rw [Nat.pow_succ]; omega, by have := RR9.out; rw [show 8 - (i + 1) = k by have := K5.out; omega]; exact this, R4.out, OK9.out, KX.out⟩
      case measure => simp [intOf]; omega
    · obtain rfl : i = 8 := by omega
      have e : (s, (nd : Int)) = (rs, rn) := hf
      cases e
      have e9 : nd < 2 * 256 := h2
      clear hra hok hk hf h2
      go_wp2
      go_ret
      exact ⟨A, n', c', rfl, RA.out, HK.out⟩
-- rtree3_any name, 3 which, b3 its struct, g3 its row, 6 bits, 64 how many, t3 RRAt's field, l3 ROkR's field, q3 the list
set_option maxRecDepth 100000 in
set_option maxHeartbeats 1600000 in
theorem rtree3_any (L : RRL) (s : RS) (A : Option Addr) (n c : Nat) (w : World) (h : RRAt w L s A n c) (ok : ROkR s) :
    Calls Try.prog 90 #[.pointer (some ⟨L.rb, 0, none⟩), .pointer (some ⟨L.b3, 0, none⟩)] w (TreeDone w L (trF 3 6 s 1).1 ((trF 3 6 s 1).2 - 64)) := by
  obtain ⟨⟨rs, rn⟩, hres⟩ : ∃ x, trF 3 6 s 1 = x := ⟨_, rfl⟩
  rw [hres]
  have START := Lib.hid (show RRAt w L s A n c ∧ ROkR s ∧ trF 3 6 s 1 = (rs, rn) from ⟨h, ok, hres⟩)
  clear h ok hres
  go_enter Try.func90, Try.ntmps90
  go_wp2
  go_loopw [5, 6] (fun nv iv wr => ∃ (i nd n' c' : Nat) (s' : RS) (A' : Option Addr), i ≤ 6 ∧ iv = .int .i64 (i : Int) ∧ nv = .int .i64 (nd : Int) ∧ 1 ≤ nd ∧ nd < 2 ^ (i + 1) ∧ trF 3 (6 - i) s' nd = (rs, rn) ∧ RRAt wr L s' A' n' c' ∧ ROkR s' ∧ Keeps (RRB L) w wr) (fun _ iv _ => 6 - (intOf iv).toNat)
  case atStart => exact ⟨0, 1, n, c, s, A, by decide, rfl, rfl, by decide, by decide, START.out.2.2, START.out.1, START.out.2.1, Keeps.refl _ _⟩
  case round =>
    clear START s A n c
    obtain ⟨i, nd, n', c', s, A, hi, rfl, rfl, h1, h2, hf, hra, hok, hk⟩ := hrel
    obtain ⟨wv, rfl⟩ : ∃ x, x = wr := ⟨_, rfl⟩
    have RA := Lib.hid hra
    have OK := Lib.hid hok
    have HK := Lib.hid hk
    have ord := hra.ord
    have ORD := Lib.hid ord
    have t0 := hra.t3.1.cellD 0 _ rfl
    have hlen : s.q3.length = 64 := hok.l3
    have t1 : wv.cell? ⟨L.b3, 1, none⟩ = some (.slice (some ⟨L.g3, 0, none⟩) 64 64) := by have := hra.t3.1.cellD 1 _ rfl; rw [hlen] at this; exact this
    have r0 := hra.cc.cellD 0 _ rfl
    by_cases hlt : i < 6
    · obtain ⟨k, hk5⟩ : ∃ k, 6 - i = k + 1 := ⟨6 - i - 1, by omega⟩
      have hnd : nd < 64 := Nat.lt_of_lt_of_le h2 (by
        have : 2 ^ (i + 1) ≤ 2 ^ 6 := Nat.pow_le_pow_right (by decide) (by omega)
        exact this)
      have h512 : nd < 256 := by omega
      obtain ⟨p, hp⟩ : ∃ p, s.q3.getD nd 0 = p := ⟨_, rfl⟩
      have tp : wv.cell? ⟨L.g3, nd, none⟩ = some (.int .i64 p) := by rw [← hp]; exact hra.t3.2.1.cellD nd _ (map_getD 0 (by rw [hlen]; exact hnd))
      obtain ⟨b, hb⟩ : ∃ b, dBitB s.d p = b := ⟨_, rfl⟩
      have b01 := dBitB_01 s.d p
      rw [hb] at b01
      have tpe : trPR s 3 (nd : Int) = p := by show s.q3.getD ((nd : Int)).toNat 0 = p; rw [Int.toNat_natCast]; exact hp
      have hs : trS 3 s (nd : Int) = moreF { s with d := dBitS s.d p, q3 := turnN s.q3 nd b } := by unfold trS; rw [tpe, hb]; rfl
      have okS : ROkR { s with d := dBitS s.d p, q3 := turnN s.q3 nd b } := by
        obtain ⟨a1, a2, a3, a4, a5, a6⟩ := hok
        refine ⟨a1.bit _, a2, ?_, ?_, ?_, a6⟩ <;> first | assumption | (show (turnN _ _ _).length = _; rw [turnN_length]; assumption)
      have RR9 : Hid (trF 3 k (moreF { s with d := dBitS s.d p, q3 := turnN s.q3 nd b }) (2 * (nd : Int) + b) = (rs, rn)) := by
        show _ = _
        rw [hk5] at hf
        have e : trF 3 (k + 1) s (nd : Int) = trF 3 k (trS 3 s nd) (2 * (nd : Int) + dBitB s.d (trPR s 3 nd)) := rfl
        rw [e, tpe, hb, hs] at hf
        exact hf
      have BIT := Lib.hid (fun w' (h' : DAt w' L.db 91 s.d) => rdbit_any L.db s.d p w' h' OK.out.dok.inv)
      rw [hb] at BIT
      have OKS := Lib.hid okS
      have OK9 := Lib.hid okS.more
      have K5 := Lib.hid hk5
      have P2 : Hid (nd < 2 ^ (i + 1)) := h2
      obtain ⟨bn, rfl⟩ : ∃ bn : Nat, b = bn := ⟨b.toNat, by omega⟩
      have bn1 : bn ≤ 1 := by omega
      have LN9 := Lib.hid hlen
      clear hra hok hk hf hp hb hs okS tpe b01 hk5 h2 hlen
      go_wp2
      obtain ⟨mS, mh⟩ : ∃ S : World → Prop, ∀ w', S w' ↔ (w'.cell? ⟨L.rb, 0, none⟩ = some (.pointer (some ⟨L.db, 0, none⟩)) ∧ w'.cell? ⟨L.b3, 1, none⟩ = some (.slice (some ⟨L.g3, 0, none⟩) 64 64) ∧ w'.cell? ⟨L.g3, nd, none⟩ = some (.int .i64 p)) := ⟨_, fun _ => Iff.rfl⟩
      have mk0 : ∀ x : Memb mS, x.at_.cell? ⟨L.rb, 0, none⟩ = some (.pointer (some ⟨L.db, 0, none⟩)) := fun x => ((mh _).1 x.is).1
      have mk1 : ∀ x : Memb mS, x.at_.cell? ⟨L.b3, 1, none⟩ = some (.slice (some ⟨L.g3, 0, none⟩) 64 64) := fun x => ((mh _).1 x.is).2.1
      have mk2 : ∀ x : Memb mS, x.at_.cell? ⟨L.g3, nd, none⟩ = some (.int .i64 p) := fun x => ((mh _).1 x.is).2.2
      have mn : Nonempty (Memb mS) := ⟨⟨(wv).drew, (mh _).2 ⟨r0, t1, tp⟩⟩⟩
      have mH := Lib.hid mh
      clear mh
      refine wp_region_mix [11] (InS mS) (by kernel_rfl) (by kernel_rfl) (InS.mk ((mH.out _).2 ⟨r0, t1, tp⟩)) ?_
      refine wpMix_seg 11 (by kernel_rfl) (by decide) ?_
      simp only [List.take_succ_cons, List.take_zero, List.drop_succ_cons, List.drop_zero]
      repeat (go_big_quiet_step (fail))
      refine wpQuiet_nil ?_
      refine wpMix_eff (by kernel_rfl) ?_
      go_wp2_with fail
      refine (BIT.out _ RA.out.dc.drew).mono ?_
      rintro e w2 ⟨rfl, d2, k2⟩
      have D2 := Lib.hid d2
      have K2 := Lib.hid ((Keeps.refl (fun k => k = L.db) wv).drew.trans k2 (T := fun k => k = L.db) (fun _ h => h) (fun _ _ h => h))
      have TR2 := Lib.hid (RA.out.t3.keeps K2.out (by show ¬ _ = _; omega) (by show ¬ _ = _; omega))
      have C2 := Lib.hid (K2.out.blk RA.out.cc (by show ¬ _ = _; omega))
      clear d2 k2
      go_wp2
      refine MixK.on (InS.mk ((mH.out _).2 (⟨C2.out.cellD 0 _ rfl, (by have := TR2.out.1.cellD 1 _ rfl; rw [LN9.out] at this; exact this), (K2.out.cell (p := ⟨L.g3, nd, none⟩) RA.out.t3.2.1.lt (by show ¬ L.g3 = L.db; omega)).trans tp⟩))) ?_
      refine wpMix_seg 5 (by kernel_rfl) (by decide) ?_
      simp only [List.take_succ_cons, List.take_zero, List.drop_succ_cons, List.drop_zero]
      repeat (go_big_quiet_step (fail))
      refine wpQuiet_nil ?_
      refine wpMix_nil ?_
      clear mk0 mk1 mk2 mn mH
      go_wp2_with fail
      refine (rturn_any L.b3 L.g3 6 s.q3 nd bn _ TR2.out (by rw [LN9.out]; decide)).mono ?_
      rintro e w3 ⟨rfl, tr3, k3⟩
      have K3 := Lib.hid k3
      have ord := ORD.out
      have r := RA.out
      have RA3 : Hid (RRAt w3 L { s with d := dBitS s.d p, q3 := turnN s.q3 nd bn } A n' c') :=
        ⟨k3.blk C2.out (by show ¬ _ = _; omega), (r.bs.keeps K2.out (fun b off h0 _ e h => by have := r.lb h0 b off e; have h : b = L.db := h; omega)).keeps k3 (fun b off h0 _ e h => by have := r.lb h0 b off e; have h : b = L.g3 := h; omega), r.lb, D2.out.keeps k3 (by show ¬ _ = _; omega), (r.t1.keeps K2.out (by show ¬ _ = _; omega) (by show ¬ _ = _; omega)).keeps k3 (by show ¬ _ = _; omega) (by show ¬ _ = _; omega), (r.t2.keeps K2.out (by show ¬ _ = _; omega) (by show ¬ _ = _; omega)).keeps k3 (by show ¬ _ = _; omega) (by show ¬ _ = _; omega), tr3, r.ord⟩
      have KW := Lib.hid ((HK.out.trans K2.out (T := RRB L) (fun _ h => h) (fun k _ e => by have e : k = L.db := e; subst e; exact ⟨Nat.le_refl _, by omega⟩)).trans k3 (T := RRB L) (fun _ h => h) (fun k _ e => by have e : k = L.g3 := e; subst e; exact ⟨by omega, by omega⟩))
      clear tr3 k3 D2 K2 TR2 C2 K3 r
      go_wp2_with fail
      refine (rmore_any L _ A n' c' w3 RA3.out OKS.out).mono ?_
      rintro e w4 ⟨A4, n4, c4, rfl, r4, k4⟩
      have R4 := Lib.hid r4
      have KX := Lib.hid (KW.out.trans k4 (T := RRB L) (fun _ h => h) (fun k _ e => by have e : k = L.db ∨ k = L.rb := e; exact ⟨by omega, by omega⟩))
      clear r4 k4
      go_wp2
      go_roundw
      case rel => exact ⟨i + 1, 2 * nd + bn, n4, c4, _, A4, hlt, by go_num, by go_num, by omega, by have := P2.out; rw [Nat.pow_succ]; omega, by have := RR9.out; rw [show 6 - (i + 1) = k by have := K5.out; omega]; exact this, R4.out, OK9.out, KX.out⟩
      case measure => simp [intOf]; omega
    · obtain rfl : i = 6 := by omega
      have e : (s, (nd : Int)) = (rs, rn) := hf
      cases e
      have e9 : nd < 2 * 64 := h2
      clear hra hok hk hf h2
      go_wp2
      go_ret
      exact ⟨A, n', c', rfl, RA.out, HK.out⟩
end Go.Proofs.Ytggjdkkobhefeaa
