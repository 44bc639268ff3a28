
/- The walks of slices.Concat, seal.four, seal.Size, seal.Put. -/
import Derived.Test.YtgehkioneelgcaaJCuXSeal
import Derived.Test.YtgehkioneelgcaaJCua
import Derived.Lib.AppendZerosOnto
import Derived.Lib.SliceRun
namespace Go.Proofs.Ytgehkioneelgcaa
open Go.RowKit

set_option maxRecDepth 100000 in
set_option maxHeartbeats 1600000 in
theorem grow_any (n : Nat) (w : World) (h0 : 0 < n) (h1 : n ≤ 1000000) : Calls Try.prog 56 #[.slice none 0 0, .int .i64 n] w fun e w' => ∃ v, e = .returned v ∧ Own w' w.heap.size v [] ∧ Keeps None w w' := by
  obtain ⟨i, hi, hz0, hz1, hz2⟩ := info_parts Try.info5
  have hold : (Builtin.firstCells i.size 0 (.slice none 0 0)).run Try.prog w.drew = .ok #[] w.drew := run_firstCells_none w.drew i.size 0 0 0
  have hrz := Lib.run_append_grow_zeros (P := Try.prog) w 24 3 24 5 i (.int .u8 0) .i64 .i64 Try.underlying24 Try.underlying3 hi hz0 none 0 0 [] hold n (by omega) (by omega) (by omega) (by omega) (by rw [hz2]; omega) (growslice_fits (by omega) (by rw [hz2]; omega))
  rw [Nat.zero_add] at hrz
  have hsz : (#[] ++ Builtin.zeroCells (Value.int .u8 0).cells n ++ Builtin.zeroCells (Value.int .u8 0).cells (grownCap w n 0 5 - n)).size = grownCap w n 0 5 * 1 := by
    have := grownCap_ge w n 0 5
    simp [size_zeroCells, Value.cells]
    omega
  have hG1 := grownCap_ge w n 0 5
  have hG2 := grownCap_le_maxLen w n 0 5 (by unfold maxLen; omega)
  have OWN := Lib.hid (World.ownsRow_made (e := 5) (size := 1) (base := w.heap.size) w.drew _ _ (Nat.le_refl _) hG2 hsz)
  have hG3 : grownCap w n 0 5 ≤ 9223372036854775807 := by unfold maxLen at hG2; omega
  have KK := Lib.hid ((Keeps.refl None w).drew.alloc (.cells (#[] ++ Builtin.zeroCells (Value.int .u8 0).cells n ++ Builtin.zeroCells (Value.int .u8 0).cells (grownCap w n 0 5 - n)) 5))
  generalize hC : (#[] ++ Builtin.zeroCells (Value.int .u8 0).cells n ++ Builtin.zeroCells (Value.int .u8 0).cells (grownCap w n 0 5 - n)) = C at *
  generalize grownCap w n 0 5 = G at *
  clear hC hold hsz hG2
  have HR := Lib.hid hrz
  clear hrz hi hz0 hz1 hz2
  go_enter Try.func56, Try.ntmps56
  go_wp2_with (at_builtin; refine Lib.wpList_append_run _ rfl _ _ _ _ rfl _ _ rfl rfl _ _ HR.out ?_)
  go_ret
  exact ⟨_, rfl, ⟨OWN.out, by simp⟩, KK.out⟩

structure Part where
  A : Option Addr
  n : Nat
  cap : Nat
  zs : List Int
def Part.val (p : Part) : Value := .slice p.A p.n p.cap
def tot (ps : List Part) : Nat := (ps.map Part.n).sum
def cat (ps : List Part) : List Int := ps.flatMap Part.zs
theorem take_snoc' {α : Type} (l : List α) (k : Nat) (hk : k < l.length) : l.take (k + 1) = l.take k ++ [l[k]] := by
  rw [List.take_add_one, List.getElem?_eq_getElem hk]; rfl
theorem tot_take (ps : List Part) (k : Nat) (hk : k < ps.length) : tot (ps.take (k + 1)) = tot (ps.take k) + ps[k].n := by
  unfold tot
  rw [take_snoc' ps k hk, List.map_append, List.sum_append_nat]; simp
theorem tot_le (ps : List Part) (k : Nat) : tot (ps.take k) ≤ tot ps := by
  have e : tot ps = tot (ps.take k) + tot (ps.drop k) := by
    unfold tot
    rw [← List.sum_append_nat, ← List.map_append, List.take_append_drop]
  omega
theorem cat_take (ps : List Part) (k : Nat) (hk : k < ps.length) : cat (ps.take (k + 1)) = cat (ps.take k) ++ ps[k].zs := by
  unfold cat
  rw [take_snoc' ps k hk, List.flatMap_append]; simp
theorem cat_length (ps : List Part) (h : ∀ p ∈ ps, p.zs.length = p.n) : (cat ps).length = tot ps := by
  induction ps with
  | nil => rfl
  | cons p ps ih =>
    have h1 := ih (fun q hq => h q (List.mem_cons_of_mem _ hq))
    have h2 := h p List.mem_cons_self
    simp only [cat, List.flatMap_cons, List.length_append, tot, List.map_cons, List.sum_cons] at h1 ⊢
    omega

set_option maxRecDepth 100000 in
set_option maxHeartbeats 1600000 in
theorem concat_any (ps : List Part) (m bp : Nat) (T : TypeId) (w : World) (hb : Blk w bp (ps.map Part.val) T) (hm : ps.length = m) (hs : ∀ p ∈ ps, Bs w p.A p.n p.cap p.zs) (h0 : 0 < tot ps) (h1 : tot ps ≤ 1000000) (hm2 : m ≤ 1000) :
    Calls Try.prog 44 #[.slice (some ⟨bp, 0, none⟩) m m] w fun e w' => ∃ v, e = .returned v ∧ Own w' w.heap.size v (cat ps) ∧ Keeps None w w' := by
  have HB := Lib.hid hb
  have HM := Lib.hid hm
  have HS := Lib.hid hs
  clear hb hm hs
  go_enter Try.func44, Try.ntmps44
  go_wp2
  go_loop [3, 11] (fun sv iv => ∃ k : Nat, k ≤ m ∧ iv = .int .i64 k ∧ sv = .int .i64 (tot (ps.take k))) (fun _ iv => m - (intOf iv).toNat)
  case atStart => exact ⟨0, Nat.zero_le _, rfl, rfl⟩
  case round =>
    obtain ⟨k, hk, rfl, rfl⟩ := hrel
    by_cases hlt : k < m
    · have hk2 : k < ps.length := by rw [HM.out]; exact hlt
      have TT := Lib.hid (tot_take ps k hk2)
      have c1 : w.cell? ⟨bp, k, none⟩ = some (.slice ps[k].A ps[k].n ps[k].cap)   := HB.out.cellD k _ (by simp [Part.val, hk2])
      have tle := tot_le ps (k + 1)
      rw [TT.out] at tle
      generalize tot (ps.take k) = tk at *
      generalize ps[k] = pk at *
      obtain ⟨A, n, cap, zs⟩ := pk
      simp only at c1 TT tle
      have g1 : decide ((tk : Int) + n < 0) = false := decide_eq_false (by omega)
      go_wp2
      go_round
      case rel => exact ⟨k + 1, by omega, by go_num, by rw [TT.out]; go_num⟩
      case measure => simp [intOf]; omega
    · obtain rfl : k = m := by omega
      rw [List.take_of_length_le (by rw [HM.out]; exact Nat.le_refl _)]
      have HC := Lib.hid (cat_length ps (fun p hp => (HS.out p hp).len))
      have GR := Lib.hid (fun w => grow_any (tot ps) w h0 h1)
      generalize tot ps = N at *
      go_wp2_with fail
      refine (GR.out _).mono ?_
      rintro e w1 ⟨v1, rfl, o1, k1⟩
      have O1 := Lib.hid o1
      have K1 := Lib.hid k1
      clear o1 k1 GR
      go_wp2
      go_loopw [6, 27] (fun ov iv wr => ∃ q : Nat, q ≤ k ∧ iv = .int .i64 q ∧ Own wr w.heap.size ov (cat (ps.take q)) ∧ Keeps None w wr) (fun _ iv _ => k - (intOf iv).toNat)
      case atStart => exact ⟨0, Nat.zero_le _, rfl, O1.out, K1.out⟩
      case round =>
        obtain ⟨q, hq, rfl, hO, hK⟩ := hrel
        by_cases hlq : q < k
        · have hq2 : q < ps.length := by rw [HM.out]; exact hlq
          have CT := Lib.hid (cat_take ps q hq2)
          have c1 : wr.cell? ⟨bp, q, none⟩ = some (.slice ps[q].A ps[q].n ps[q].cap)   := (hK.blk HB.out (fun h => h)).cellD q _ (by simp [Part.val, hq2])
          have BS := Lib.hid ((HS.out ps[q] (List.getElem_mem hq2)).keeps hK (fun _ _ _ _ _ h => h))
          have cl : (cat (ps.take q)).length + ps[q].zs.length ≤ N := by
            have h3 := tot_le ps (q + 1)
            have h4 := cat_length (ps.take (q + 1)) (fun p hp => (HS.out p (List.mem_of_mem_take hp)).len)
            have h5 := cat_length ps (fun p hp => (HS.out p hp).len)
            have h6 := HC.out
            rw [CT.out, List.length_append] at h4
            omega
          generalize ps[q] = pq at *
          obtain ⟨A, n, cap, zs⟩ := pq
          simp only at c1 CT BS cl
          have HO := Lib.hid hO
          have HK := Lib.hid hK
          have hn := BS.out.len
          clear hO hK
          go_wp2_with (at_builtin; refine wpList_append_bs HO.out BS.out (by omega) HK.out.size rfl rfl rfl rfl rfl ?_; intro v' w4 ho4 hk4)
          go_roundw
          case rel => exact ⟨q + 1, by omega, by go_num, by rw [CT.out]; exact ho4, HK.out.trans hk4 (fun _ h => h) (fun i hi e => absurd e (HO.out.notBelow hi))⟩
          case measure => simp [intOf]; omega
        · obtain rfl : q = k := by omega
          rw [List.take_of_length_le (by rw [HM.out]; exact Nat.le_refl _)] at hO
          have HO := Lib.hid hO
          have HK := Lib.hid hK
          clear hO hK
          go_wp2
          go_ret
          exact ⟨_, rfl, HO.out, HK.out⟩
end Go.Proofs.Ytgehkioneelgcaa
