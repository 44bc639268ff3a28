
/- The walk of journal's packed. -/
import Derived.Test.YtfldgaiiniknpaaLBkXJn6
namespace Go.Proofs.Ytfldgaiiniknpaa
open Go.RowKit

set_option maxRecDepth 100000 in
theorem sput_all (kind seq : Int) (A : Option Addr) (n cap : Nat) (zs : List Int) (w : World) (h : Bs w A n cap zs) :
    Calls Try.prog 66 #[.agg #[.int .i64 kind, .int .i64 seq, .slice A n cap]] w fun e w' => ∃ v, e = .returned v ∧ Own w' w.heap.size v (putL kind seq zs) ∧ Keeps None w w' := by
  by_cases hn : n ≤ 1000000
  · exact sput_any kind seq A n cap zs w h hn
  have hl := h.len
  have hmax := h.max
  have hle := h.le
  have HP : Hid (putL kind seq zs = []) := if_neg (fun hf => by obtain ⟨f1, f2, f3, f4, f5⟩ := hf; omega)
  have d5 : decide (512 < (n : Int)) = true := decide_eq_true (by omega)
  have d5n : decide (512 < n) = true := decide_eq_true (by omega)
  clear h
  by_cases g1 : kind < 1
  · have d1 : decide (kind < 1) = true := decide_eq_true g1
    go_enter Try.func66, Try.ntmps66
    go_wp2
    go_ret
    exact ⟨_, rfl, by rw [HP.out]; exact Own.nil _ _, (Keeps.refl _ _).alloc _⟩
  have d1 : decide (kind < 1) = false := decide_eq_false g1
  by_cases g2 : 250 < kind
  · have d2 : decide (250 < kind) = true := decide_eq_true g2
    go_enter Try.func66, Try.ntmps66
    go_wp2
    go_ret
    exact ⟨_, rfl, by rw [HP.out]; exact Own.nil _ _, (Keeps.refl _ _).alloc _⟩
  have d2 : decide (250 < kind) = false := decide_eq_false g2
  by_cases g3 : seq < 0
  · have d3 : decide (seq < 0) = true := decide_eq_true g3
    go_enter Try.func66, Try.ntmps66
    go_wp2
    go_ret
    exact ⟨_, rfl, by rw [HP.out]; exact Own.nil _ _, (Keeps.refl _ _).alloc _⟩
  have d3 : decide (seq < 0) = false := decide_eq_false g3
  by_cases g4 : 4294967295 < seq
  · have d4 : decide (4294967295 < seq) = true := decide_eq_true g4
    go_enter Try.func66, Try.ntmps66
    go_wp2
    go_ret
    exact ⟨_, rfl, by rw [HP.out]; exact Own.nil _ _, (Keeps.refl _ _).alloc _⟩
  have d4 : decide (4294967295 < seq) = false := decide_eq_false g4
  go_enter Try.func66, Try.ntmps66
  go_wp2
  go_ret
  exact ⟨_, rfl, by rw [HP.out]; exact Own.nil _ _, (Keeps.refl _ _).alloc _⟩
def Rec.put (r : Rec) : List Int := putL r.k r.s r.b
theorem putL_le (k s : Int) (b : List Int) : (putL k s b).length ≤ 600 := by
  by_cases hf : fitsR k s b.length
  · have h1 := putL_len k s b hf
    have h5 := hf.2.2.2.2
    have e : sizeZ b.length = 16 + ((b.length : Int) + 7) / 8 * 8 := if_neg (by omega)
    omega
  · unfold putL; rw [if_neg hf]; exact Nat.zero_le _
/-- The bytes of records, behind those so far; none: they do not fit. -/
def packF : List Int → List Rec → Option (List Int)
  | out, [] => some out
  | out, r :: rs => if r.k = 1 ∨ r.put.length = 0 ∨ 1008 < out.length + r.put.length then none else packF (out ++ r.put) rs
def PackTold (w : World) (r : Option (List Int)) (e : Ending) (w' : World) : Prop :=
  Keeps None w w' ∧ match r with
    | none => e = .returned (.tuple #[.slice none 0 0, .bool false])
    | some out => ∃ v, e = .returned (.tuple #[v, .bool true]) ∧ Own w' w.heap.size v out
set_option maxRecDepth 100000 in
set_option maxHeartbeats 1600000 in
theorem jpacked_any (A : Option Addr) (n cap : Nat) (rs : List RV) (P : Nat → Prop) (w : World) (h : Rws w A n cap rs) (hb : Bds w P rs) (hn : n ≤ 1000000) :
    Calls Try.prog 71 #[.slice A n cap] w (PackTold w (packF [] (rs.map RV.r))) := by
  have H := Lib.hid h
  have HB := Lib.hid hb
  have HL := Lib.hid h.len
  have hle := h.le
  have hmx := h.max
  clear h hb
  obtain ⟨res, HRES⟩ : ∃ x, Hid (packF [] (rs.map RV.r) = x) := ⟨_, rfl⟩
  rw [HRES.out]
  go_enter Try.func71, Try.ntmps71
  go_wp2
  go_loopw [4, 10] (fun ov iv wr => ∃ (i : Nat) (out : List Int), i ≤ n ∧ iv = .int .i64 (i : Int) ∧ out.length ≤ 1008 ∧ Own wr w.heap.size ov out ∧ packF out ((rs.map RV.r).drop i) = res ∧ Keeps None w wr) (fun _ iv _ => n - (intOf iv).toNat)
  case atStart => exact ⟨0, [], Nat.zero_le _, rfl, by decide, Own.nil _ _, HRES.out, Keeps.refl _ _⟩
  case round =>
    obtain ⟨i, out, hi, rfl, hol, ho, hp, hk⟩ := hrel
    obtain ⟨wv, rfl⟩ : ∃ x, x = wr := ⟨_, rfl⟩
    obtain ⟨A0, c0, rfl, b0, -⟩ := ho.shape
    have l0 := b0.le
    have m0 := b0.max
    have HO := Lib.hid ho
    have HP := Lib.hid hp
    have HK := Lib.hid hk
    obtain ⟨on, HON⟩ : ∃ x, Hid (out.length = x) := ⟨_, rfl⟩
    rw [HON.out] at l0 hol HO ⊢
    clear ho hp hk b0
    by_cases hlt : i < n
    · have hir : i < rs.length := by rw [HL.out]; exact hlt
      obtain ⟨r, hr0⟩ : ∃ r, rs[i] = r := ⟨_, rfl⟩
      have hget : rs[i]? = some r := by rw [List.getElem?_eq_getElem hir, hr0]
      have hmem : r ∈ rs := List.mem_of_getElem? hget
      obtain ⟨gb, off, rfl, hgb, hc⟩ := H.out.at_ (by omega)
      obtain ⟨x0, x1, x2⟩ := hc i r hget
      rw [← HK.out.cell hgb (fun h => h)] at x0 x1 x2
      have hbs := HB.out.bs r hmem
      have hdr : (rs.map RV.r).drop i = r.r :: (rs.map RV.r).drop (i + 1) := by
        rw [List.drop_eq_getElem_cons (by rw [List.length_map]; exact hir), List.getElem_map, hr0]
      obtain ⟨rk, rs0, rA, rc, rb⟩ := r
      have PS : Hid (res = if rk = 1 ∨ (putL rk rs0 rb).length = 0 ∨ 1008 < out.length + (putL rk rs0 rb).length then none else packF (out ++ putL rk rs0 rb) ((rs.map RV.r).drop (i + 1))) := by
        show _ = _
        rw [← HP.out, hdr]
        rfl
      dsimp only [RV.v] at hbs x0 x1 x2
      have BSV := Lib.hid (hbs.keeps HK.out (fun _ _ _ _ _ h => h))
      have hbl := hbs.le
      have hbx := hbs.max
      have PUT := Lib.hid (fun n w (h : Bs w rA n rc rb) => sput_all rk rs0 rA n rc rb w h)
      have PL := putL_le rk rs0 rb
      obtain ⟨pl, HPL⟩ : ∃ x, Hid (putL rk rs0 rb = x) := ⟨_, rfl⟩
      rw [HPL.out] at PUT PL PS
      obtain ⟨bn, HBN⟩ : ∃ x, Hid (rb.length = x) := ⟨_, rfl⟩
      rw [HBN.out] at x2 BSV hbl
      clear hget hmem hc hbs hdr hr0 HP
      go_wp2_with fail
      refine (PUT.out _ _ (BSV.out.alloc _)).mono ?_
      rintro e w3 ⟨v3, rfl, o3, k3⟩
      obtain ⟨A3, c3, rfl, b3, -⟩ := o3.shape
      obtain ⟨pn, HPN⟩ : ∃ x, Hid (pl.length = x) := ⟨_, rfl⟩
      rw [HPN.out] at b3 PL ⊢
      have l3 := b3.le
      have m3 := b3.max
      have B3 := Lib.hid b3
      have N3 := Lib.hid (k3.blk (Blk.new wv [.int .i64 rk, .int .i64 rs0, .slice rA bn rc] 58) (fun h => h))
      have K3 := Lib.hid (((Keeps.refl None wv).alloc (.cells #[.int .i64 rk, .int .i64 rs0, .slice rA bn rc] 58)).trans k3 (T := None) (fun _ h => h) (fun _ _ h => h))
      have O3 := Lib.hid (HO.out.keeps K3.out (fun _ _ h => h))
      have KW := Lib.hid (HK.out.trans K3.out (T := None) (fun _ h => h) (fun _ _ h => h))
      have y0 := N3.out.cellD 0 _ rfl
      rw [HON.out, HPN.out] at PS
      clear o3 k3 b3
      by_cases q1 : rk = 1
      · subst q1
        have e0 : Hid (res = none) := PS.out.trans (if_pos (.inl rfl))
        clear PS
        go_wp2
        go_ret2
        rw [e0.out]
        exact ⟨KW.out, rfl⟩
      have d1 : (rk == 1) = false := by simpa using q1
      by_cases q2 : pn = 0
      · subst q2
        have e0 : Hid (res = none) := PS.out.trans (if_pos (.inr (.inl rfl)))
        clear PS
        go_wp2
        go_ret2
        rw [e0.out]
        exact ⟨KW.out, rfl⟩
      have d2 : ((pn : Int) == 0) = false := by simp; omega
      have d2n : (pn == 0) = false := by simp; omega
      by_cases q3 : 1008 < on + pn
      · have d3 : decide (1008 - (on : Int) < (pn : Int)) = true := decide_eq_true (by omega)
        have e0 : Hid (res = none) := PS.out.trans (if_pos (.inr (.inr q3)))
        clear PS
        go_wp2
        go_ret2
        rw [e0.out]
        exact ⟨KW.out, rfl⟩
      have d3 : decide (1008 - (on : Int) < (pn : Int)) = false := decide_eq_false (by omega)
      have PS2 : Hid (packF (out ++ pl) ((rs.map RV.r).drop (i + 1)) = res) := (PS.out.trans (if_neg (fun h => by rcases h with h | h | h; exact q1 h; exact q2 h; exact q3 h))).symm
      clear PS
      go_wp2_with (at_builtin; refine Hid.out ?_)
      refine Lib.hid ?_
      refine wpList_append_bs (zs := out) (by rw [← HON.out] at O3; exact O3.out) B3.out (by rw [HON.out]; omega) KW.out.size (by rfl) (by rfl) (by rfl) (by rw [HON.out]; rfl) (by rfl) ?_
      intro v4 w4 o4 k4
      have O4 := Lib.hid o4
      have K4 := Lib.hid (KW.out.trans k4 (T := None) (fun _ h => h) (fun b hb e => absurd (by rw [HON.out] at e; exact e) (O3.out.notBelow hb)))
      clear o4 k4
      go_wp2
      go_roundw
      case rel => exact ⟨i + 1, out ++ pl, hlt, by go_num, by rw [List.length_append, HON.out, HPN.out]; omega, O4.out, PS2.out, K4.out⟩
      case measure => simp [intOf]; omega
    · obtain rfl : i = n := by omega
      have e0 : Hid (res = some out) := by
        show _ = _
        rw [← HP.out, List.drop_eq_nil_of_le (by rw [List.length_map, HL.out]; exact Nat.le_refl _)]
        rfl
      clear HP
      go_wp2
      go_ret2
      rw [e0.out]
      exact ⟨HK.out, _, rfl, HO.out⟩
end Go.Proofs.Ytfldgaiiniknpaa
