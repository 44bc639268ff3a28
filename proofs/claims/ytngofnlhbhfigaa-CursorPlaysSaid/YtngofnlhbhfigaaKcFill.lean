/- A flash of four sectors with bytes that repeat. -/
import Derived.Test.YtngofnlhbhfigaaKcAlive
namespace Go.Proofs.Ytngofnlhbhfigaa
open Go.RowKit

def fillTo (zs : List Int) (p j : Nat) : List Int := (List.range j).map fun k => zs.getD ((p + k) % zs.length) 0
theorem fillTo_len (zs : List Int) (p j : Nat) : (fillTo zs p j).length = j := by simp [fillTo]
theorem fillTo_succ (zs : List Int) (p j : Nat) : fillTo zs p (j + 1) = fillTo zs p j ++ [zs.getD ((p + j) % zs.length) 0] := by simp [fillTo, List.range_succ]
theorem spoil_nrm {c : Nat} {s : FS} (h : Nrm c s) {p : Nat} {X : List Int} (hp : p + X.length ≤ 1024 * c) : ∃ s', s.spoilF p X = (s', 0) ∧ Nrm c s' ∧ s'.steps = s.steps ∧ s'.er = s.er := by
  have hw : withinB p X.length s.b.length = true := decide_eq_true ⟨by omega, by omega, by rw [h.bl]; omega, by rw [h.bl]; omega⟩
  unfold FS.spoilF
  rw [if_pos hw, Int.toNat_natCast]
  exact ⟨_, rfl, ⟨h.dark, h.left, by show (splice _ _ _).length = _; rw [splice_len _ _ _ (by rw [h.bl]; exact hp)]; exact h.bl, h.el⟩, rfl, rfl⟩
/-- A flash of four sectors in which no step was done. -/
structure Fresh (s : FS) : Prop where
  nrm : Nrm 4 s
  st : s.steps = 0
  er : ∀ x, s.er.getD x 0 = 0
def Filled (W : World) (B : Nat) (e : Ending) (w' : World) : Prop := ∃ q L s, e = .returned (.pointer (some ⟨q, 0, none⟩)) ∧ LF W w' B q L s ∧ Fresh s
set_option maxRecDepth 100000 in
set_option maxHeartbeats 1600000 in
theorem filled4_any (A : Option Addr) (m cap : Nat) (zs : List Int) (W w : World) (hk : Keeps None W w) (h : Bs W A m cap zs) (hm : m ≤ 300) : Calls Try.prog 57 #[.slice A m cap] w (Filled W w.heap.size) := by
  have hle := h.le
  have hmx := h.max
  have NW := Lib.hid (lnew hk ((4 : Nat) : Int))
  have FR : Hid (Fresh (newF (4 : Nat))) := ⟨newF_nrm 4 (by decide) (by decide), rfl, newF_er 4 (by decide) (by decide)⟩
  have HB := Lib.hid h
  have HZL := Lib.hid h.len
  have HRS := Lib.hid (fun p j => fillTo_succ zs p j)
  have HRL := Lib.hid (fun p j => fillTo_len zs p j)
  generalize newF ((4 : Nat) : Int) = f0 at *
  clear h hk
  go_enter Try.func57, Try.ntmps57
  go_wp2_with fail
  refine NW.out.mono ?_
  rintro e w2 ⟨q, L, rfl, hF⟩
  have HF := Lib.hid hF
  clear hF NW
  go_wp2
  go_loopw [4] (fun iv wr => ∃ (i : Nat) (s : FS) (L : FL), i ≤ 4 ∧ iv = .int .i64 i ∧ LF W wr w.heap.size q L s ∧ Fresh s) (fun iv _ => 4 - (intOf iv).toNat)
  case atStart => exact ⟨0, f0, L, Nat.zero_le _, rfl, HF.out, FR.out⟩
  case round =>
    obtain ⟨i, s, L1, hi, rfl, hF, hS⟩ := hrel
    obtain ⟨wv, rfl⟩ : ∃ x, x = wr := ⟨_, rfl⟩
    have F1 := Lib.hid hF
    have S1 := Lib.hid hS
    clear hF hS HF FR
    by_cases hlt : i < 4
    · by_cases g0 : 0 < m
      · have d0 : decide (0 < (m : Int)) = true := decide_eq_true (by omega)
        obtain ⟨p, hp⟩ : ∃ x, i * 1024 = x := ⟨_, rfl⟩
        have j1 : IntKind.i64.wrap ((i : Int) * 1024) = p := by rw [show (i : Int) * 1024 = (p : Int) by omega]; exact wrap_nat _ (by omega)
        have pb : p + 1024 ≤ 4096 := by omega
        clear hp
        go_wp2
        go_loopw [5, 6] (fun ov kv wr' => ∃ j : Nat, j ≤ 1024 ∧ kv = .int .i64 j ∧ Own wr' wv.heap.size ov (fillTo zs p j) ∧ Keeps None wv wr') (fun _ kv _ => 1024 - (intOf kv).toNat)
        case atStart => exact ⟨0, Nat.zero_le _, rfl, Own.nil _ _, Keeps.refl _ _⟩
        case round =>
          obtain ⟨j, hj, rfl, hO, hKr⟩ := hrel
          obtain ⟨wx, rfl⟩ : ∃ x, x = wr := ⟨_, rfl⟩
          obtain ⟨A3, c3, rfl, bs3, -⟩ := hO.shape
          rw [HRL.out] at bs3 hO ⊢
          have HO := Lib.hid hO
          have HKr := Lib.hid hKr
          have l3 := bs3.le
          have m3 := bs3.max
          clear hO hKr bs3
          by_cases hlt2 : j < 1024
          · obtain ⟨t, ht⟩ : ∃ t, p + j = t := ⟨_, rfl⟩
            obtain ⟨r, hr⟩ : ∃ r, t % m = r := ⟨_, rfl⟩
            have hrm : r < m := by rw [← hr]; exact Nat.mod_lt _ g0
            have j2 : IntKind.i64.wrap ((p : Int) + j) = t := by rw [show (p : Int) + j = (t : Int) by omega]; exact wrap_nat _ (by omega)
            have j3 : ((t : Int) % m) = r := by omega
            have F3 := Lib.hid (F1.out.later HKr.out)
            obtain ⟨bb, bo, z, rfl, hz, za, zb, hc⟩ := (HB.out.keeps F3.out.keeps (fun _ _ _ _ _ h => h)).get hrm
            have HZ : Hid (zs.getD ((p + j) % zs.length) 0 = z) := by show _ = z; rw [HZL.out, ht, hr]; exact hz
            clear hr hz ht
            go_wp2_with (at_builtin; refine Hid.out ?_)
            refine Lib.hid ?_
            refine wpList_append_bs (HO.out.alloc _) (Bs.oneAt _ _ rfl z ⟨za, zb⟩) (by rw [HRL.out]; omega) (Nat.le_trans HKr.out.size (by simp)) rfl rfl rfl rfl rfl ?_
            intro v4 w4 ho4 hk4
            have O4 : Hid (Own w4 wv.heap.size v4 (fillTo zs p (j + 1))) := by show Own _ _ _ _; rw [HRS.out, HZ.out]; exact ho4
            have K4 := Lib.hid ((HKr.out.alloc (.cells #[.int .u8 z] 5)).trans hk4 (T := None) (fun _ h => h) (fun i hi e => absurd e (HO.out.notBelow hi)))
            clear ho4 hk4
            go_wp2
            go_roundw
            case rel => exact ⟨j + 1, hlt2, by go_num, O4.out, K4.out⟩
            case measure => simp [intOf]; omega
          · obtain rfl : j = 1024 := by omega
            have hL3 := HRL.out p 1024
            obtain ⟨s2, q1, q2, q3, q4⟩ := spoil_nrm S1.out.nrm (p := p) (X := fillTo zs p 1024) (by rw [hL3]; exact pb)
            have SP := Lib.hid (lspoil (F1.out.later HKr.out) (ownBs HO.out) p)
            rw [q1] at SP
            have FR2 : Hid (Fresh s2) := ⟨q2, q3.trans S1.out.st, fun x => by rw [q4]; exact S1.out.er x⟩
            clear q1 q2 q3 q4 hL3 HO
            go_wp2_with fail
            refine SP.out.mono ?_
            rintro e w5 ⟨rfl, L5, h5, -⟩
            have H5 := Lib.hid h5
            simp only [] at H5
            clear h5
            go_wp2
            go_roundw
            case rel => exact ⟨i + 1, s2, L5, hlt, by go_num, H5.out, FR2.out⟩
            case measure => simp [intOf]; omega
      · have d0 : decide (0 < (m : Int)) = false := decide_eq_false (by omega)
        go_wp2
        go_ret
        exact ⟨q, L1, s, rfl, F1.out, S1.out⟩
    · obtain rfl : i = 4 := by omega
      go_wp2
      go_ret
      exact ⟨q, L1, s, rfl, F1.out, S1.out⟩
end Go.Proofs.Ytngofnlhbhfigaa
