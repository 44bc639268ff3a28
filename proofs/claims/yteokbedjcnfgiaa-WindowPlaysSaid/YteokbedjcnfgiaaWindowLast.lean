/- Window.Last. -/
import Derived.Test.YteokbedjcnfgiaaWindow
import Derived.Test.YteokbedjcnfgiaaBytes
namespace Go.Proofs.Yteokbedjcnfgiaa
open Go.RowKit

/-- Of the last m bytes of h all but the last d. -/
def lastTo (h : List Int) (m d : Nat) : List Int := (List.range (m - d)).map fun i => h.getD (h.length - m + i) 0
theorem lastTo_start (h : List Int) (m : Nat) : lastTo h m m = [] := by simp [lastTo]
theorem lastTo_step (h : List Int) (m d : Nat) (h1 : 1 ≤ d) (h2 : d ≤ m) (h3 : m ≤ h.length) : lastTo h m d ++ [h.getD (h.length - d) 0] = lastTo h m (d - 1) := by
  unfold lastTo
  rw [show m - (d - 1) = (m - d) + 1 by omega, List.range_succ, List.map_append, List.map_singleton, show h.length - m + (m - d) = h.length - d by omega]
/-- The last bytes that Last tells. -/
def lastN (h : List Int) (n : Int) : List Int := lastTo h (min n (min (h.length : Int) 4096)).toNat 0

set_option maxRecDepth 100000 in
set_option maxHeartbeats 1600000 in
theorem last_le (b : Nat) (h : List Int) (n : Int) (w : World) (hw : Win w b h) (hl : h.length < 1099511627776) (hbyte : ∀ z ∈ h, 0 ≤ z ∧ z ≤ 255) (hc : n ≤ min (h.length : Int) 4096) :
    Calls Try.prog 20 #[.pointer (some ⟨b, 0, none⟩), .int .i64 n] w (Cloned w (lastN h n)) := by
  have HKEPT := Lib.hid (wkept_any b h w hw)
  have FIN : Hid (lastN h n = lastTo h (min n (min (h.length : Int) 4096)).toNat 0) := rfl
  have e0 : min n (min (h.length : Int) 4096) = n := by omega
  rw [e0] at FIN
  have hb1 : min (h.length : Int) 4096 ≤ h.length := by omega
  have hb2 : min (h.length : Int) 4096 ≤ 4096 := by omega
  have hb3 : 0 ≤ min (h.length : Int) 4096 := by omega
  clear e0
  have HW := Lib.hid hw
  have HBY := Lib.hid hbyte
  have hblt := hw.lt
  clear hw hbyte
  generalize min (h.length : Int) 4096 = kept at *
  go_enter Try.func20, Try.ntmps20
  go_wp2_with (go_at_call 55; refine HKEPT.out.mono ?_; rintro e w' ⟨rfl, rfl⟩)
  go_loopw [5, 6] (fun v i wr => ∃ d : Int, i = .int .i64 d ∧ d ≤ n ∧ (n ≤ 0 → d = n) ∧ (0 ≤ n → 0 ≤ d) ∧ Own wr w.heap.size v (lastTo h (n).toNat d.toNat) ∧ Keeps None w wr) (fun _ i _ => (intOf i).toNat)
  case atStart => exact ⟨n, rfl, Int.le_refl _, fun _ => rfl, fun h => h, by rw [lastTo_start]; exact Own.nil _ _, Keeps.refl _ _⟩
  case round =>
    obtain ⟨d, rfl, hd1, hd2, hd3, hO, hK⟩ := hrel
    have HO := Lib.hid hO
    have HD2 := Lib.hid hd2
    have HD3 := Lib.hid hd3
    clear hO hd2 hd3
    by_cases hlt : 1 ≤ d
    · obtain ⟨e, rfl⟩ := Int.eq_ofNat_of_zero_le (show 0 ≤ d by omega)
      rw [Int.toNat_natCast] at HO
      have Y := Lib.hid (wback_yes b h e _ wr (HW.out.keeps hK (fun h => h)) (by omega) (by omega) (by omega) (by omega) rfl)
      have hz := byte_getD HBY.out (h.length - e)
      have HS := Lib.hid (lastTo_step h (n).toNat e (by omega) (by omega) (by omega))
      generalize h.getD (h.length - e) 0 = z at *
      have hll : (lastTo h (n).toNat e).length ≤ 4096 := by simp [lastTo]; omega
      have hsz := hK.size
      have HK := Lib.hid hK
      clear hK
      go_wp2_with (first | (go_at_call 17; refine Y.out.mono ?_; rintro e w3 ⟨rfl, nq, rfl⟩) | (at_builtin; refine wpList_append_bs ((HO.out.drewN nq).alloc _) (Bs.oneAt _ _ rfl _ hz) (by omega) (by simp; omega) rfl rfl rfl rfl rfl ?_; intro v' w4 ho4 hk4))
      rw [HS.out] at ho4
      have HO4 := Lib.hid ho4
      have HK4 := Lib.hid hk4
      clear ho4 hk4 HKEPT Y
      go_roundw
      case rel =>
        refine ⟨(e : Int) - 1, rfl, by omega, fun h0 => by have := HD2.out h0; omega, fun h0 => by omega, ?_, ?_⟩
        · rw [show ((e : Int) - 1).toNat = e - 1 by omega]; exact HO4.out
        · refine (((HK.out.drewN nq).alloc _).trans HK4.out (fun _ h => h) (fun i hi hb => ?_))
          exact HO.out.notBelow hi hb
      case measure => simp only [intOf]; omega
    · have hd0 : d ≤ 0 := by omega
      clear HKEPT
      have HK := Lib.hid hK
      clear hK
      go_wp2
      go_ret
      refine ⟨_, rfl, ?_, HK.out⟩
      have e2 : (n).toNat - d.toNat = (n).toNat - 0 := by
        by_cases h0 : n ≤ 0
        · have := HD2.out h0; omega
        · have := HD3.out (by omega); omega
      have e3 : lastTo h (n).toNat d.toNat = lastTo h (n).toNat 0 := by unfold lastTo; rw [e2]
      rw [FIN.out, ← e3]
      exact HO.out
set_option maxRecDepth 100000 in
set_option maxHeartbeats 1600000 in
theorem last_gt (b : Nat) (h : List Int) (n : Int) (w : World) (hw : Win w b h) (hl : h.length < 1099511627776) (hbyte : ∀ z ∈ h, 0 ≤ z ∧ z ≤ 255) (hc : min (h.length : Int) 4096 < n) :
    Calls Try.prog 20 #[.pointer (some ⟨b, 0, none⟩), .int .i64 n] w (Cloned w (lastN h n)) := by
  have HKEPT := Lib.hid (wkept_any b h w hw)
  have FIN : Hid (lastN h n = lastTo h (min n (min (h.length : Int) 4096)).toNat 0) := rfl
  have e0 : min n (min (h.length : Int) 4096) = min (h.length : Int) 4096 := by omega
  rw [e0] at FIN
  have hb1 : min (h.length : Int) 4096 ≤ h.length := by omega
  have hb2 : min (h.length : Int) 4096 ≤ 4096 := by omega
  have hb3 : 0 ≤ min (h.length : Int) 4096 := by omega
  clear e0
  have HW := Lib.hid hw
  have HBY := Lib.hid hbyte
  have hblt := hw.lt
  clear hw hbyte
  generalize min (h.length : Int) 4096 = kept at *
  go_enter Try.func20, Try.ntmps20
  go_wp2_with (go_at_call 55; refine HKEPT.out.mono ?_; rintro e w' ⟨rfl, rfl⟩)
  go_loopw [5, 6] (fun v i wr => ∃ d : Int, i = .int .i64 d ∧ d ≤ kept ∧ (kept ≤ 0 → d = kept) ∧ (0 ≤ kept → 0 ≤ d) ∧ Own wr w.heap.size v (lastTo h (kept).toNat d.toNat) ∧ Keeps None w wr) (fun _ i _ => (intOf i).toNat)
  case atStart => exact ⟨kept, rfl, Int.le_refl _, fun _ => rfl, fun h => h, by rw [lastTo_start]; exact Own.nil _ _, Keeps.refl _ _⟩
  case round =>
    obtain ⟨d, rfl, hd1, hd2, hd3, hO, hK⟩ := hrel
    have HO := Lib.hid hO
    have HD2 := Lib.hid hd2
    have HD3 := Lib.hid hd3
    clear hO hd2 hd3
    by_cases hlt : 1 ≤ d
    · obtain ⟨e, rfl⟩ := Int.eq_ofNat_of_zero_le (show 0 ≤ d by omega)
      rw [Int.toNat_natCast] at HO
      have Y := Lib.hid (wback_yes b h e _ wr (HW.out.keeps hK (fun h => h)) (by omega) (by omega) (by omega) (by omega) rfl)
      have hz := byte_getD HBY.out (h.length - e)
      have HS := Lib.hid (lastTo_step h (kept).toNat e (by omega) (by omega) (by omega))
      generalize h.getD (h.length - e) 0 = z at *
      have hll : (lastTo h (kept).toNat e).length ≤ 4096 := by simp [lastTo]; omega
      have hsz := hK.size
      have HK := Lib.hid hK
      clear hK
      go_wp2_with (first | (go_at_call 17; refine Y.out.mono ?_; rintro e w3 ⟨rfl, nq, rfl⟩) | (at_builtin; refine wpList_append_bs ((HO.out.drewN nq).alloc _) (Bs.oneAt _ _ rfl _ hz) (by omega) (by simp; omega) rfl rfl rfl rfl rfl ?_; intro v' w4 ho4 hk4))
      rw [HS.out] at ho4
      have HO4 := Lib.hid ho4
      have HK4 := Lib.hid hk4
      clear ho4 hk4 HKEPT Y
      go_roundw
      case rel =>
        refine ⟨(e : Int) - 1, rfl, by omega, fun h0 => by have := HD2.out h0; omega, fun h0 => by omega, ?_, ?_⟩
        · rw [show ((e : Int) - 1).toNat = e - 1 by omega]; exact HO4.out
        · refine (((HK.out.drewN nq).alloc _).trans HK4.out (fun _ h => h) (fun i hi hb => ?_))
          exact HO.out.notBelow hi hb
      case measure => simp only [intOf]; omega
    · have hd0 : d ≤ 0 := by omega
      clear HKEPT
      have HK := Lib.hid hK
      clear hK
      go_wp2
      go_ret
      refine ⟨_, rfl, ?_, HK.out⟩
      have e2 : (kept).toNat - d.toNat = (kept).toNat - 0 := by
        by_cases h0 : kept ≤ 0
        · have := HD2.out h0; omega
        · have := HD3.out (by omega); omega
      have e3 : lastTo h (kept).toNat d.toNat = lastTo h (kept).toNat 0 := by unfold lastTo; rw [e2]
      rw [FIN.out, ← e3]
      exact HO.out
end Go.Proofs.Yteokbedjcnfgiaa
