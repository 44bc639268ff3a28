
/- The walks of journal's clone, numbered, All, Epoch, Torn, Room, failed. -/
import Derived.Test.YtfldgaiiniknpaaLBkXJn4
namespace Go.Proofs.Ytfldgaiiniknpaa
open Go.RowKit

theorem rcells_set2 : ∀ (rs : List RV) (k : Nat) (r : RV) (_ : rs[k]? = some r) (A : Option Addr) (c : Nat) (b : List Int), (rcells rs).set (k * 3 + 2) (.slice A b.length c) = rcells (rs.set k { r with A := A, c := c, b := b })
  | [], k, r, h, _, _, _ => by simp at h
  | x :: xs, 0, r, h, A, c, b => by
    obtain rfl : x = r := by simpa using h
    rfl
  | x :: xs, k + 1, r, h, A, c, b => by
    have ih := rcells_set2 xs k r (by simpa using h) A c b
    rw [show (k + 1) * 3 + 2 = (k * 3 + 2) + 1 + 1 + 1 by omega]
    simp only [rcells, rcell, List.cons_append, List.nil_append, List.set_cons_succ, ih]
theorem rcells_set1 : ∀ (rs : List RV) (k : Nat) (r : RV) (_ : rs[k]? = some r) (s : Int), (rcells rs).set (k * 3 + 1) (.int .i64 s) = rcells (rs.set k { r with s := s })
  | [], k, r, h, _ => by simp at h
  | x :: xs, 0, r, h, s => by
    obtain rfl : x = r := by simpa using h
    rfl
  | x :: xs, k + 1, r, h, s => by
    have ih := rcells_set1 xs k r (by simpa using h) s
    rw [show (k + 1) * 3 + 1 = (k * 3 + 1) + 1 + 1 + 1 by omega]
    simp only [rcells, rcell, List.cons_append, List.nil_append, List.set_cons_succ, ih]
theorem OwnR.store2 {w : World} {B g n cap : Nat} {rs : List RV} (h : OwnR w B (.slice (some ⟨g, 0, none⟩) n cap) rs) {k : Nat} {r : RV} (hr : rs[k]? = some r) (A : Option Addr) (c : Nat) (b : List Int) :
    OwnR (w.setCell ⟨g, k * 3 + 2, none⟩ (.slice A b.length c)) B (.slice (some ⟨g, 0, none⟩) n cap) (rs.set k { r with A := A, c := c, b := b }) := by
  have hn : n = rs.length := by
    rcases h.2 with ⟨e, _⟩ | ⟨_, _, _, e, _⟩
    · cases e
    · cases e; rfl
  subst hn
  have := (h.stored (k * 3 + 2) (.slice A b.length c)).1
  rw [rcells_set2 rs k r hr A c b] at this
  unfold OwnR
  rw [List.length_set]
  exact this
theorem OwnR.store1 {w : World} {B g n cap : Nat} {rs : List RV} (h : OwnR w B (.slice (some ⟨g, 0, none⟩) n cap) rs) {k : Nat} {r : RV} (hr : rs[k]? = some r) (s : Int) :
    OwnR (w.setCell ⟨g, k * 3 + 1, none⟩ (.int .i64 s)) B (.slice (some ⟨g, 0, none⟩) n cap) (rs.set k { r with s := s }) := by
  have hn : n = rs.length := by
    rcases h.2 with ⟨e, _⟩ | ⟨_, _, _, e, _⟩
    · cases e
    · cases e; rfl
  subst hn
  have := (h.stored (k * 3 + 1) (.int .i64 s)).1
  rw [rcells_set1 rs k r hr s] at this
  unfold OwnR
  rw [List.length_set]
  exact this
theorem OwnR.frozen {w : World} {B g n cap : Nat} {rs : List RV} (h : OwnR w B (.slice (some ⟨g, 0, none⟩) n cap) rs) (j : Nat) : w.frozen? ⟨g, j, none⟩ = false := by
  rcases h.2 with ⟨e, _⟩ | ⟨g', cap', cur, e, hb, hg, _⟩
  · cases e
  · cases e
    simp [World.frozen?, hg]
theorem OwnR.cells {w : World} {B g n cap : Nat} {rs : List RV} (h : OwnR w B (.slice (some ⟨g, 0, none⟩) n cap) rs) {k : Nat} {r : RV} (hr : rs[k]? = some r) :
    w.cell? ⟨g, k * 3, none⟩ = some (.int .i64 r.k) ∧ w.cell? ⟨g, k * 3 + 1, none⟩ = some (.int .i64 r.s) ∧ w.cell? ⟨g, k * 3 + 2, none⟩ = some r.v := by
  obtain ⟨A, c, e, hs, hb⟩ := h.shape
  cases e
  have hk : k < rs.length := (List.getElem?_eq_some_iff.1 hr).1
  obtain ⟨b, off, e, -, hc⟩ := hs.at_ (by omega)
  cases e
  have := hc k r hr
  rwa [Nat.zero_add] at this
set_option maxRecDepth 100000 in
set_option maxHeartbeats 400000 in
theorem rclone_any (A : Option Addr) (n cap : Nat) (rs : List RV) (w : World) (h : Rws w A n cap rs) (hn : n ≤ 1000000) :
    Calls Try.prog 78 #[.slice A n cap] w fun e w' => ∃ v, e = .returned v ∧ OwnR w' w.heap.size v rs ∧ Keeps None w w' := by
  have hnil := fun w => Lib.run_eql_slice_nil (P := Try.prog) w 41 58 A n cap 0 0 Try.underlying41
  cases A with
  | none =>
    obtain ⟨rfl, rfl⟩ := h.nil rfl
    have e : rs = [] := List.eq_nil_of_length_eq_zero h.len
    subst e
    go_enter Try.func78, Try.ntmps78
    go_wp2
    go_ret
    exact ⟨_, rfl, OwnR.nil _ _, Keeps.refl _ _⟩
  | some a =>
    have hown : OwnR (w.alloc (.cells #[] 58)) w.heap.size (.slice (some ⟨w.heap.size, 0, none⟩) 0 0) [] := World.ownsRow_made w #[] 0 (Nat.le_refl _) (by unfold maxLen; omega) rfl
    obtain ⟨v', w', hr, ho, hk, _⟩ := run_append_recs hown (h.later ((Keeps.refl None w).alloc (.cells #[] 58))) (by simpa using hn) (by simp)
    rw [List.nil_append] at ho
    have k2 : Keeps None w w' := ((Keeps.refl None w).alloc _).trans hk (fun _ h => h) (fun i hi h => by simp [Value.ownBlock] at h; omega)
    go_enter Try.func78, Try.ntmps78
    go_wp2_with (at_builtin; refine wpList_append_run hr rfl rfl rfl rfl rfl ?_)
    go_ret
    exact ⟨_, rfl, ho, k2⟩
/-- A deep copy. -/
structure Copied (w w' : World) (v : Value) (rs : List RV) : Prop where
  o : OwnR w' w.heap.size v rs
  bd : Bds w' (fun b => w.heap.size ≤ b ∧ ¬ v.ownBlock = some b) rs
  k : Keeps None w w'
set_option maxRecDepth 100000 in
set_option maxHeartbeats 1600000 in
theorem jclone_any (A : Option Addr) (n cap : Nat) (rs : List RV) (P : Nat → Prop) (w : World) (h : Rws w A n cap rs) (hb : Bds w P rs) (hn : n ≤ 1000000) (hbl : ∀ r ∈ rs, r.b.length ≤ 140737488355328) :
    Calls Try.prog 65 #[.slice A n cap] w fun e w' => ∃ v rs', e = .returned v ∧ Copied w w' v rs' ∧ rs'.map RV.r = rs.map RV.r := by
  have H := Lib.hid h
  have HB := Lib.hid hb
  have HBL := Lib.hid hbl
  have HL := Lib.hid h.len
  have hle := h.le
  have hmx := h.max
  clear h hb hbl
  go_enter Try.func65, Try.ntmps65
  go_wp2_with fail
  refine (rclone_any A n cap rs w H.out hn).mono ?_
  rintro e w1 ⟨v1, rfl, o1, k1⟩
  obtain ⟨A1, c1, rfl, r1, in1⟩ := o1.shape
  rw [HL.out] at r1 o1 ⊢
  have l1 := r1.le
  have m1 := r1.max
  have O1 := Lib.hid o1
  have K1 := Lib.hid k1
  clear r1 in1 o1 k1
  go_wp2
  go_loopw [8] (fun iv wr => ∃ (i : Nat) (cs : List RV), i ≤ n ∧ iv = .int .i64 (i : Int) ∧ cs.length = i ∧ OwnR wr w.heap.size (.slice A1 n c1) (cs ++ rs.drop i) ∧ cs.map RV.r = (rs.take i).map RV.r ∧ Bds wr (fun b => w.heap.size ≤ b ∧ ¬ (Value.slice A1 n c1).ownBlock = some b) cs ∧ Keeps None w wr) (fun iv _ => n - (intOf iv).toNat)
  case atStart => exact ⟨0, [], Nat.zero_le _, rfl, rfl, by simpa using O1.out, rfl, Bds.nil _ _, K1.out⟩
  case round =>
    clear O1 K1
    obtain ⟨i, cs, hi, rfl, hcl, ho, hm, hbd, hk⟩ := hrel
    obtain ⟨wv, rfl⟩ : ∃ x, x = wr := ⟨_, rfl⟩
    have HO := Lib.hid ho
    have HM := Lib.hid hm
    have BD := Lib.hid hbd
    have HK := Lib.hid hk
    have HC := Lib.hid hcl
    by_cases hlt : i < n
    · have hir : i < rs.length := by rw [HL.out]; exact hlt
      obtain ⟨r, hr0⟩ : ∃ r, rs[i] = r := ⟨_, rfl⟩
      have HR := Lib.hid hr0
      clear hr0
      have hdr : rs.drop i = r :: rs.drop (i + 1) := by rw [← HR.out]; exact List.drop_eq_getElem_cons hir
      have hget : (cs ++ rs.drop i)[i]? = some r := by rw [hdr, List.getElem?_append_right (by omega), hcl, Nat.sub_self]; rfl
      have hA1 : ∃ g, A1 = some ⟨g, 0, none⟩ := by
        obtain ⟨A, c, e, hs, hin⟩ := ho.shape
        cases e
        obtain ⟨b, off, e, -, -⟩ := hs.at_ (by rw [List.length_append, List.length_drop]; omega)
        obtain ⟨-, rfl⟩ := hin b off e
        exact ⟨b, e⟩
      obtain ⟨g, rfl⟩ := hA1
      obtain ⟨-, -, x2⟩ := ho.cells hget
      have f2 := ho.frozen (i * 3 + 2)
      have hmem : r ∈ rs := by rw [← HR.out]; exact List.getElem_mem hir
      have hbs := HB.out.bs r hmem
      have hbm := HBL.out r hmem
      obtain ⟨rk, rs0, rA, rc, rb⟩ := r
      dsimp only at hbs hbm
      replace x2 : wv.cell? ⟨g, i * 3 + 2, none⟩ = some (.slice rA rb.length rc) := x2
      have BSV := Lib.hid (hbs.keeps HK.out (fun _ _ _ _ _ h => h))
      have HG := Lib.hid hget
      have HD := Lib.hid hdr
      have hbl := hbs.le
      have hbx := hbs.max
      obtain ⟨bn, HBN⟩ : ∃ x, Hid (rb.length = x) := ⟨_, rfl⟩
      rw [HBN.out] at x2 BSV hbm hbl
      clear hget hdr hbs hmem ho hm hbd hk hcl
      go_wp2_with fail
      refine (clone_any rA bn rc rb wv BSV.out (by omega)).mono ?_
      rintro e w3 ⟨v3, rfl, o3, k3⟩
      obtain ⟨A3, c3, rfl, b3, in3⟩ := o3.shape
      have l3 := b3.le
      have m3 := b3.max
      have B3 := Lib.hid b3
      have I3 := Lib.hid in3
      have K3 := Lib.hid k3
      have O3 := Lib.hid (HO.out.later k3)
      have D3 := Lib.hid (BD.out.later k3)
      have KW := Lib.hid (HK.out.trans k3 (T := None) (fun _ h => h) (fun _ _ h => h))
      have gl : Hid (w.heap.size ≤ g ∧ g < wv.heap.size) := HO.out.block rfl
      have y2 := (O3.out.cells HG.out).2.2
      have g2 := O3.out.frozen (i * 3 + 2)
      have ST := Lib.hid (O3.out.store2 HG.out A3 c3 rb)
      have SE : Hid ((cs ++ rs.drop i).set i ⟨rk, rs0, A3, c3, rb⟩ = (cs ++ [⟨rk, rs0, A3, c3, rb⟩]) ++ rs.drop (i + 1)) := by
        show _ = _
        rw [HD.out, List.set_append_right _ _ (by rw [HC.out]; exact Nat.le_refl _), HC.out, Nat.sub_self, List.append_assoc]
        rfl
      dsimp only at ST
      rw [SE.out] at ST
      replace y2 : w3.cell? ⟨g, i * 3 + 2, none⟩ = some (.slice rA rb.length rc) := y2
      rw [HBN.out] at l3 ST y2 ⊢
      clear x2 f2 o3 k3 b3 in3
      go_wp2
      go_roundw
      case rel =>
        refine ⟨i + 1, cs ++ [⟨rk, rs0, A3, c3, rb⟩], hlt, by go_num, by rw [List.length_append, HC.out]; rfl, ST.out, ?_, ?_, KW.out.setCell _ _ (fun h => absurd h (by have := gl.out.1; show ¬ g < _; omega))⟩
        · have e : rs.take (i + 1) = rs.take i ++ [⟨rk, rs0, rA, rc, rb⟩] := by rw [List.take_add_one, List.getElem?_eq_getElem hir, HR.out]; rfl
          rw [e, List.map_append, List.map_append, HM.out]
          rfl
        · have ks := (Keeps.self g w3).put (i * 3 + 2) (.slice A3 bn c3)
          refine (D3.out.keeps ks (fun b hb _ e => hb.2 (by rw [e]; rfl))).append (Bds.one ((show Bs w3 A3 rb.length c3 rb from B3.out).keeps ks (fun b off h0 _ e hb => by have := (I3.out b off e).1; have := gl.out.2; have hb : b = g := hb; omega)) (fun b ⟨off, h0, e⟩ => ?_))
          have h1 := I3.out b off e
          have h2 := gl.out
          have h3 := HK.out.size
          refine ⟨⟨by omega, fun e => ?_⟩, Nat.lt_of_lt_of_le h1.2.1 ks.size⟩
          have e : g = b := by simpa [Value.ownBlock] using e
          omega
      case measure => simp [intOf]; omega
    · obtain rfl : i = n := by omega
      have F1 : Hid (Copied w wv (.slice A1 i c1) cs ∧ cs.map RV.r = rs.map RV.r) := by
        have e : rs.drop i = [] := List.drop_eq_nil_of_le (by rw [HL.out]; exact Nat.le_refl _)
        have h1 := HO.out
        have h2 := HM.out
        rw [e, List.append_nil] at h1
        rw [List.take_of_length_le (by rw [HL.out]; exact Nat.le_refl _)] at h2
        exact ⟨⟨h1, BD.out, HK.out⟩, h2⟩
      clear ho hm hbd hk
      go_wp2
      go_ret
      exact ⟨_, cs, rfl, F1.out.1, F1.out.2⟩
end Go.Proofs.Ytfldgaiiniknpaa
