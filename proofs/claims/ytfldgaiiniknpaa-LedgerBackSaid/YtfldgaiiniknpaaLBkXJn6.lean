
/- The walks of journal's numbered, packed, All, Epoch, Torn, Room, failed. -/
import Derived.Test.YtfldgaiiniknpaaLBkXJn5
namespace Go.Proofs.Ytfldgaiiniknpaa
open Go.RowKit

/-- Records with numbers from i + 1 on. -/
def numR : Nat → List Rec → List Rec
  | _, [] => []
  | i, r :: rs => { r with s := ((i + 1 : Nat) : Int) } :: numR (i + 1) rs
theorem numR_len : ∀ (rs : List Rec) (i : Nat), (numR i rs).length = rs.length
  | [], _ => rfl
  | r :: rs, i => by simp [numR, numR_len rs]
theorem numR_snoc : ∀ (rs : List Rec) (r : Rec) (i : Nat), numR i (rs ++ [r]) = numR i rs ++ [{ r with s := ((i + rs.length + 1 : Nat) : Int) }]
  | [], r, i => by simp [numR]
  | x :: rs, r, i => by
    simp only [List.cons_append, numR, numR_snoc rs r (i + 1), List.length_cons]
    rw [show i + 1 + rs.length + 1 = i + (rs.length + 1) + 1 by omega]
theorem Bds.set {w : World} {P : Nat → Prop} {rs : List RV} (h : Bds w P rs) {k : Nat} {r x : RV} (hr : rs[k]? = some r) (hA : x.A = r.A) (hc : x.c = r.c) (hb : x.b = r.b) : Bds w P (rs.set k x) := by
  have hm : r ∈ rs := List.mem_of_getElem? hr
  have key : ∀ y ∈ rs.set k x, y ∈ rs ∨ y = x := fun y hy => List.mem_or_eq_of_mem_set hy
  refine ⟨fun y hy => ?_, fun y hy b hb' => ?_⟩
  · rcases key y hy with h1 | rfl
    · exact h.bs y h1
    · rw [hA, hc, hb]; exact h.bs r hm
  · rcases key y hy with h1 | rfl
    · exact h.p y h1 b hb'
    · obtain ⟨off, h0, e⟩ := hb'
      exact h.p r hm b ⟨off, by rw [← hb]; exact h0, by rw [← hA]; exact e⟩
theorem Copied.keeps {w w' w'' : World} {v : Value} {rs : List RV} (h : Copied w w' v rs) (k : Keeps None w' w'') : Copied w w'' v rs := ⟨h.o.later k, h.bd.later k, h.k.trans k (fun _ h => h) (fun _ _ h => h)⟩
set_option maxRecDepth 100000 in
set_option maxHeartbeats 1600000 in
theorem jnumbered_any (A : Option Addr) (n cap : Nat) (rs : List RV) (P : Nat → Prop) (w : World) (h : Rws w A n cap rs) (hb : Bds w P rs) (hn : n ≤ 1000000) (hbl : ∀ r ∈ rs, r.b.length ≤ 140737488355328) :
    Calls Try.prog 70 #[.slice A n cap] w fun e w' => ∃ v rs', e = .returned v ∧ Copied w w' v rs' ∧ rs'.map RV.r = numR 0 (rs.map RV.r) := by
  have CL := Lib.hid (jclone_any A n cap rs P w h hb hn hbl)
  have HL := Lib.hid h.len
  clear h hb hbl
  go_enter Try.func70, Try.ntmps70
  go_wp2_with fail
  refine CL.out.mono ?_
  rintro e w1 ⟨v1, cs, rfl, cp, hm⟩
  have hcn : cs.length = n := by have := congrArg List.length hm; rw [List.length_map, List.length_map, HL.out] at this; exact this
  obtain ⟨A1, c1, rfl, r1, in1⟩ := cp.o.shape
  have l1 := r1.le
  have m1 := r1.max
  rw [hcn] at l1
  rw [hcn] at cp ⊢
  have CP := Lib.hid cp
  have HM := Lib.hid hm
  have HCN := Lib.hid hcn
  clear r1 in1 cp hm CL hcn
  go_wp2
  go_loopw [8] (fun iv wr => ∃ (i : Nat) (xs : List RV), i ≤ n ∧ iv = .int .i64 (i : Int) ∧ xs.length = n ∧ Copied w wr (.slice A1 n c1) xs ∧ xs.map RV.r = numR 0 ((cs.map RV.r).take i) ++ (cs.map RV.r).drop i) (fun iv _ => n - (intOf iv).toNat)
  case atStart => exact ⟨0, cs, Nat.zero_le _, rfl, HCN.out, CP.out, by simp [numR]⟩
  case round =>
    clear CP
    obtain ⟨i, xs, hi, rfl, hxl, hcp, hx⟩ := hrel
    obtain ⟨wv, rfl⟩ : ∃ x, x = wr := ⟨_, rfl⟩
    have HP := Lib.hid hcp
    have HX := Lib.hid hx
    have HXL := Lib.hid hxl
    by_cases hlt : i < n
    · have hix : i < xs.length := by omega
      obtain ⟨r, hr0⟩ : ∃ r, xs[i] = r := ⟨_, rfl⟩
      have hget : xs[i]? = some r := by rw [List.getElem?_eq_getElem hix, hr0]
      have hA1 : ∃ g, A1 = some ⟨g, 0, none⟩ := by
        obtain ⟨A, c, e, hs, hin⟩ := hcp.o.shape
        cases e
        obtain ⟨b, off, e, -, -⟩ := hs.at_ (by omega)
        obtain ⟨-, rfl⟩ := hin b off e
        exact ⟨b, e⟩
      obtain ⟨g, rfl⟩ := hA1
      obtain ⟨-, x1, -⟩ := hcp.o.cells hget
      have f1 := hcp.o.frozen (i * 3 + 1)
      have HG := Lib.hid hget
      have ST := Lib.hid (hcp.o.store1 hget ((i : Int) + 1))
      have hgB := (hcp.o.block rfl).1
      have GB : Hid (w.heap.size ≤ g) := hgB
      have BD := Lib.hid (hcp.bd.keeps ((Keeps.self g wv).put (i * 3 + 1) (.int .i64 ((i : Int) + 1))) (fun b hb _ e => hb.2 (by rw [e]; rfl)))
      have KK := Lib.hid (hcp.k)
      clear hget hcp hx hxl hgB
      go_wp2
      go_roundw
      case rel =>
        refine ⟨i + 1, xs.set i { r with s := (i : Int) + 1 }, hlt, by go_num, by rw [List.length_set]; exact HXL.out, ⟨ST.out, BD.out.set HG.out rfl rfl rfl, KK.out.setCell _ _ (fun h => absurd h (by have := GB.out; show ¬ g < _; omega))⟩, ?_⟩
        have hcl : i < (cs.map RV.r).length := by rw [List.length_map, HCN.out]; exact hlt
        have hd : (cs.map RV.r).drop i = (cs.map RV.r)[i] :: (cs.map RV.r).drop (i + 1) := List.drop_eq_getElem_cons hcl
        have ht : (cs.map RV.r).take (i + 1) = (cs.map RV.r).take i ++ [(cs.map RV.r)[i]] := by rw [List.take_add_one, List.getElem?_eq_getElem hcl]; rfl
        have hl0 : (numR 0 ((cs.map RV.r).take i)).length = i := by rw [numR_len, List.length_take]; omega
        have hri : r.r = (cs.map RV.r)[i] := by
          have h1 : (xs.map RV.r)[i]? = some r.r := by rw [List.getElem?_map, HG.out]; rfl
          rw [HX.out, hd, List.getElem?_append_right (by rw [hl0]; exact Nat.le_refl _), hl0, Nat.sub_self] at h1
          exact (Option.some.inj h1).symm
        rw [List.map_set, HX.out, hd, List.set_append_right _ _ (by rw [hl0]; exact Nat.le_refl _), hl0, Nat.sub_self, List.set_cons_zero, ht, numR_snoc, List.append_assoc]
        congr 1
        rw [List.singleton_append]
        congr 1
        rw [← hri]
        have e : (0 + ((cs.map RV.r).take i).length + 1 : Nat) = i + 1 := by rw [List.length_take]; omega
        rw [e]
        rfl
      case measure => simp [intOf]; omega
    · obtain rfl : i = n := by omega
      have F1 : Hid (xs.map RV.r = numR 0 (rs.map RV.r)) := by
        show _ = _
        rw [HX.out, List.drop_eq_nil_of_le (by rw [List.length_map, HCN.out]; exact Nat.le_refl _), List.append_nil, List.take_of_length_le (by rw [List.length_map, HCN.out]; exact Nat.le_refl _), HM.out]
      clear hcp hx hxl
      go_wp2
      go_ret
      exact ⟨_, xs, rfl, HP.out, F1.out⟩

/-! ### small ones -/
set_option maxRecDepth 100000 in
theorem jall_any (B q : Nat) (X : JX) (s : FS) (j : JS) (w : World) (h : JAt w B q X s j) (hl : j.l.length ≤ 1000000) (hbl : ∀ r ∈ j.l, r.b.length ≤ 1000000) : Calls Try.prog 58 #[.pointer (some ⟨X.jb, 0, none⟩)] w fun e w' => ∃ v rs', e = .returned v ∧ Copied w w' v rs' ∧ rs'.map RV.r = j.l := by
  obtain ⟨A, c, hlv, hr, -⟩ := h.l.shape
  have hrl : X.rs.length = j.l.length := by rw [← h.recs, List.length_map]
  have CL := Lib.hid (jclone_any A X.rs.length c X.rs _ w hr h.bd (by omega) (fun r hr => Nat.le_trans (hbl r.r (by rw [← h.recs]; exact List.mem_map_of_mem hr)) (by decide)))
  have RC := Lib.hid h.recs
  have y3 := h.c.cellD 3 _ rfl
  rw [hlv] at y3
  have l1 := hr.le
  have m1 := hr.max
  obtain ⟨jb, hjb⟩ : ∃ x, X.jb = x := ⟨_, rfl⟩
  obtain ⟨n, hn⟩ : ∃ x, X.rs.length = x := ⟨_, rfl⟩
  rw [hjb] at y3 ⊢
  rw [hn] at y3 CL l1
  clear h hlv hr hrl hjb hn
  go_enter Try.func58, Try.ntmps58
  go_wp2_with fail
  refine CL.out.mono ?_
  rintro e w1 ⟨v1, cs, rfl, cp, hm⟩
  have CP := Lib.hid cp
  have HM := Lib.hid hm
  clear cp hm
  go_wp2
  go_ret
  exact ⟨_, cs, rfl, CP.out, HM.out.trans RC.out⟩
set_option maxRecDepth 100000 in
theorem jall_nil (w : World) : Calls Try.prog 58 #[.pointer none] w (Same (.slice none 0 0) w) := by
  go_enter Try.func58, Try.ntmps58
  go_wp2
  go_ret
  exact ⟨rfl, rfl⟩
def JS.room (j : JS) : Int := if j.torn = true ∨ j.cur = -1 then 0 else 1024 - (j.used : Int)
set_option maxRecDepth 100000 in
theorem jroom_any (B q : Nat) (X : JX) (s : FS) (j : JS) (w : World) (h : JAt w B q X s j) (hu : j.used ≤ 1024) : Calls Try.prog 67 #[.pointer (some ⟨X.jb, 0, none⟩)] w (Same (.int .i64 j.room) w) := by
  have y7 := h.c.cellD 7 _ rfl
  have y5 := h.c.cellD 5 _ rfl
  have y6 := h.c.cellD 6 _ rfl
  have RM : Hid (j.room = if j.torn = true ∨ j.cur = -1 then 0 else 1024 - (j.used : Int)) := rfl
  obtain ⟨jl, je, jc, ju, jt, jr⟩ := j
  dsimp only at y7 y5 y6 RM hu
  clear h
  cases jt with
  | true =>
    have e : Hid ((⟨jl, je, jc, ju, true, jr⟩ : JS).room = 0) := RM.out.trans (if_pos (.inl rfl))
    rw [e.out]
    clear RM e
    go_enter Try.func67, Try.ntmps67
    go_wp2
    go_ret
    exact ⟨rfl, rfl⟩
  | false =>
    by_cases hc : jc = -1
    · have e : Hid ((⟨jl, je, jc, ju, false, jr⟩ : JS).room = 0) := RM.out.trans (if_pos (.inr hc))
      rw [e.out]
      clear RM e
      subst hc
      go_enter Try.func67, Try.ntmps67
      go_wp2
      go_ret
      exact ⟨rfl, rfl⟩
    · have e : Hid ((⟨jl, je, jc, ju, false, jr⟩ : JS).room = 1024 - (ju : Int)) := RM.out.trans (if_neg (fun h => h.elim (fun h => by cases h) hc))
      rw [e.out]
      have e1 : (jc == -1) = false := by simpa using hc
      clear RM e hc
      go_enter Try.func67, Try.ntmps67
      go_wp2
      go_ret
      exact ⟨rfl, rfl⟩
set_option maxRecDepth 100000 in
theorem jroom_nil (w : World) : Calls Try.prog 67 #[.pointer none] w (Same (.int .i64 0) w) := by
  go_enter Try.func67, Try.ntmps67
  go_wp2
  go_ret
  exact ⟨rfl, rfl⟩
set_option maxRecDepth 100000 in
theorem jfailed_any (B q : Nat) (X : JX) (s : FS) (j : JS) (x : Int) (w : World) (h : JAt w B q X s j) : Calls Try.prog 68 #[.pointer (some ⟨X.jb, 0, none⟩), .int .i64 x] w fun e w' => e = .returned (.bool (x != 0)) ∧ JStay w w' B q X X s { j with err := x } := by
  have P8 := Lib.hid (h.put (j' := { j with err := x }) 8 (.int .i64 x) rfl rfl)
  have y8 := h.c.cellD 8 _ rfl
  have f8 := h.c.frozen 8
  clear h
  go_enter Try.func68, Try.ntmps68
  go_wp2
  go_ret
  exact ⟨rfl, P8.out⟩
end Go.Proofs.Ytfldgaiiniknpaa
