
/- The walks of folder 23's do and record. -/
import Derived.Test.YtfldgaiiniknpaaLCuXLp
import Derived.Test.YtfldgaiiniknpaaLCuXLgActs
import Derived.Test.YtfldgaiiniknpaaLCuXLgChk
import Derived.Test.YtfldgaiiniknpaaLCuXLg14
namespace Go.Proofs.Ytfldgaiiniknpaa
open Go.RowKit

theorem comL_byt {c : Com} (h : c.ok) : Byt (comL c) := by
  have hl : ∀ n, Byt (lowL 8 n) := fun n => lowL_byte 8 n
  have happ : ∀ {x y : List Int}, Byt x → Byt y → Byt (x ++ y) := fun hx hy z hz => (List.mem_append.1 hz).elim (hx z) (hy z)
  unfold comL
  split
  · exact happ (hl _) (happ (hl _) (happ (hl _) (happ (hl _) h.mb)))
  · intro z hz; cases hz
theorem chkL_byt {c : Chk} (h : c.ok) : Byt (chkL c) := by
  have hl : ∀ n, Byt (lowL 8 n) := fun n => lowL_byte 8 n
  have happ : ∀ {x y : List Int}, Byt x → Byt y → Byt (x ++ y) := fun hx hy z hz => (List.mem_append.1 hz).elim (hx z) (hy z)
  unfold chkL
  split
  · exact happ (hl _) (happ (hl _) (happ (hl _) (happ h.ib h.mb)))
  · intro z hz; cases hz
/-- A call in plain words, and its record. -/
def actF (s : FS) (j : JS) (st : St) (a : AV) : FS × JS × St × Int := if a.k = 1 then commitF s j st a.c else if a.k = 2 then checkF s j st a.ck else if a.k = 3 then clearF s j st else (s, j, st, 0)
def actRec (a : AV) : Rec := if a.k = 1 then ⟨2, 0, comL a.c⟩ else if a.k = 2 then ⟨3, 0, chkL a.ck⟩ else ⟨4, 0, []⟩
theorem actRec_byt {w : World} {a : AV} (h : a.ok w) : Byt (actRec a).b := by
  unfold actRec
  split
  · exact comL_byt h.c
  · split
    · exact chkL_byt h.k
    · intro z hz; cases hz
theorem actRec_eta (a : AV) : actRec a = ⟨(actRec a).k, 0, (actRec a).b⟩ := by
  unfold actRec
  split
  · rfl
  · split <;> rfl
theorem actF_or {w : World} (s : FS) (j : JS) (st : St) {a : AV} (h : a.ok w) : (∃ er, actF s j st a = (s, j, st, er)) ∨ (actF s j st a = keepF s j st (actRec a).k (actRec a).b) := by
  unfold actF actRec commitF checkF clearF
  split
  · split
    · exact .inr rfl
    · exact .inl ⟨_, rfl⟩
  · split
    · split
      · exact .inr rfl
      · exact .inl ⟨_, rfl⟩
    · split
      · split
        · exact .inr rfl
        · exact .inl ⟨_, rfl⟩
      · exact .inl ⟨_, rfl⟩
theorem Live.act {s : FS} {n e : Nat} {c : Int} {l : List Rec} {T : List Int} {m : Nat} (h : Live s n e c l T (m + 2)) (he : e + 1 ≤ 4294967295) {w : World} {a : AV} (ha : a.ok w) :
    ∃ s' e' c' l' T' er, actF s (keptJ e c l T) (foldS l) a = (s', keptJ e' c' l' T', foldS l', er) ∧ Live s' n e' c' l' T' m ∧ e' ≤ e + 1 := by
  rcases actF_or s (keptJ e c l T) (foldS l) ha with ⟨er, h1⟩ | h1
  · exact ⟨s, e, c, l, T, er, h1, h.less (by omega), by omega⟩
  · rw [h1]
    exact h.kept he _ (actRec_byt ha)
theorem Live.cutAct {s : FS} {n e : Nat} {c : Int} {l : List Rec} {T : List Int} {m : Nat} (h : Live s n e c l T (m + 2)) (x : Int) {ps : List Int} (hp : Byt ps) (he : e + 1 ≤ 4294967295) {w : World} {a : AV} (ha : a.ok w) :
    ∃ s' j' st' er e' c' l' T', actF (s.armF x ps) (keptJ e c l T) (foldS l) a = (s', j', st', er) ∧ FG s' n ∧ Live s'.bootF n e' c' l' T' m ∧ e' ≤ e + 1 ∧
      ((er = 0 ∧ st' = foldS l') ∨ (er ≠ 0 ∧ st' = foldS l ∧ (foldS l' = foldS l ∨ foldS l' = foldS (recsS (foldS l) ++ [actRec a])))) := by
  rcases actF_or (s.armF x ps) (keptJ e c l T) (foldS l) ha with ⟨er, h1⟩ | h1
  · refine ⟨_, _, _, er, e, c, l, T, h1, h.g.arm x hp, Live.boot (h.g.arm x hp) (h.keep.arm x ps).boot ((h.rm.arm x ps).less (by omega)), by omega, ?_⟩
    by_cases h0 : er = 0
    · exact .inl ⟨h0, rfl⟩
    · exact .inr ⟨h0, rfl, .inl rfl⟩
  · rw [h1]
    obtain ⟨s', j', st', er, e', c', l', T', r1, r2, r3, r4, r5⟩ := h.cutKept x hp he (actRec a).k (actRec_byt ha)
    refine ⟨s', j', st', er, e', c', l', T', r1, r2, r3, r4, ?_⟩
    rw [actRec_eta a]
    exact r5
set_option maxRecDepth 100000 in
set_option maxHeartbeats 3200000 in
theorem do23_any {W w : World} {B q lb jb : Nat} {X : JX} {s : FS} {j : JS} {st : St} {A : Option Addr} {n cap m : Nat} (h : LG W w B q lb jb X s j st A n cap) (ok : JOk j) {a : AV} (ha : a.ok w)
    (happ : ∀ kind body, Byt body → JOk (appF s j kind body).2.1 ∧ 2 ≤ (appF s j kind body).1.er.length) (rm : JRm s (m + 3250)) :
    Calls Try.prog 24 #[.pointer (some ⟨lb, 0, none⟩), .agg a.cs.toArray] w (LGDone W w B q lb jb X (actF s j st a)) := by
  have G := Lib.hid h
  have AO := Lib.hid ha
  have a0 : a.cs.toArray[0]? = some (.int .i64 a.k) := rfl
  obtain ⟨w0, hw0⟩ : ∃ x, w.alloc (.cells a.cs.toArray 49) = x := ⟨_, rfl⟩
  have CB : Hid (Blk w0 w.heap.size a.cs 49) := by rw [← hw0]; exact Blk.new w a.cs 49
  have K0 : Hid (Keeps None w w0) := by rw [← hw0]; exact (Keeps.refl None w).alloc _
  have b0 : w0.cell? ⟨w.heap.size, 0, none⟩ = some (.int .i64 a.k) := CB.out.cellD 0 _ rfl
  have G0 := Lib.hid (h.later K0.out)
  have AO0 := Lib.hid (ha.keeps K0.out)
  have HAPP := Lib.hid happ
  have JO := Lib.hid ok
  have RM := Lib.hid rm
  obtain ⟨V, hV⟩ : ∃ V, a.cs.toArray = V := ⟨_, rfl⟩
  rw [hV] at hw0 a0 ⊢
  have HV := Lib.hid hV
  clear h ha ok happ rm hV
  by_cases q1 : a.k = 1
  · rw [q1] at a0 b0
    have AF : Hid (actF s j st a = commitF s j st a.c) := if_pos q1
    have C1 := Lib.hid (lgcommit_any G0.out JO.out a.c AO0.out.c (HAPP.out _ _ (comL_byt AO0.out.c)).1 (HAPP.out _ _ (comL_byt AO0.out.c)).2 RM.out)
    unfold Com.v at C1
    rw [AF.out]
    clear q1
    go_enter Try.func24, Try.ntmps24
    go_wp2_with (refine wpList_load_blk (b := w.heap.size) (o := 3) (ds := a.c.cs) CB.out (fun j v hv => AV.cs_com AO.out j v hv) rfl rfl rfl Try.underlying25 rfl (by rw [Com.cs_len AO.out.c]; exact com_size) ?_)
    go_wp2_with fail
    refine C1.out.mono ?_
    rintro e w2 ⟨rfl, X2, A2, n2, c2, g2, t2⟩
    have G2 := Lib.hid g2
    have T2 := Lib.hid (t2.ahead K0.out)
    clear g2 t2 C1
    go_wp2_with fail
    refine (num23_any _ _).mono ?_
    rintro e w3 ⟨rfl, rfl⟩
    go_wp2
    go_ret
    exact ⟨rfl, X2, A2, n2, c2, G2.out, T2.out⟩
  have d1 : (a.k == 1) = false := by simpa using q1
  by_cases q2 : a.k = 2
  · rw [q2] at a0 b0
    have AF : Hid (actF s j st a = checkF s j st a.ck) := by show _ = _; unfold actF; rw [if_neg q1, if_pos q2]
    have C1 := Lib.hid (lgcheck_any G0.out JO.out a.ck AO0.out.k AO0.out.m (HAPP.out _ _ (chkL_byt AO0.out.k)).1 (HAPP.out _ _ (chkL_byt AO0.out.k)).2 RM.out)
    unfold Chk.v at C1
    rw [AF.out]
    clear q1 q2 d1
    go_enter Try.func24, Try.ntmps24
    go_wp2_with (refine wpList_load_blk (b := w.heap.size) (o := 71) (ds := a.ck.cs a.kA a.kn a.kc) CB.out (fun j v hv => AV.cs_chk AO.out j v hv) rfl rfl rfl Try.underlying29 rfl (by rw [Chk.cs_len AO.out.k]; exact chk_size) ?_)
    go_wp2_with fail
    refine C1.out.mono ?_
    rintro e w2 ⟨rfl, X2, A2, n2, c2, g2, t2⟩
    have G2 := Lib.hid g2
    have T2 := Lib.hid (t2.ahead K0.out)
    clear g2 t2 C1
    go_wp2_with fail
    refine (num23_any _ _).mono ?_
    rintro e w3 ⟨rfl, rfl⟩
    go_wp2
    go_ret
    exact ⟨rfl, X2, A2, n2, c2, G2.out, T2.out⟩
  have d2 : (a.k == 2) = false := by simpa using q2
  by_cases q3 : a.k = 3
  · rw [q3] at a0 b0
    have AF : Hid (actF s j st a = clearF s j st) := by show _ = _; unfold actF; rw [if_neg q1, if_neg q2, if_pos q3]
    have C1 := Lib.hid (lgclear_any G0.out JO.out (HAPP.out 4 [] (fun z hz => by cases hz)).1 (HAPP.out 4 [] (fun z hz => by cases hz)).2 RM.out)
    rw [AF.out]
    clear q1 q2 q3 d1 d2
    go_enter Try.func24, Try.ntmps24
    go_wp2_with fail
    refine C1.out.mono ?_
    rintro e w2 ⟨rfl, X2, A2, n2, c2, g2, t2⟩
    have G2 := Lib.hid g2
    have T2 := Lib.hid (t2.ahead K0.out)
    clear g2 t2 C1
    go_wp2_with fail
    refine (num23_any _ _).mono ?_
    rintro e w3 ⟨rfl, rfl⟩
    go_wp2
    go_ret
    exact ⟨rfl, X2, A2, n2, c2, G2.out, T2.out⟩
  have d3 : (a.k == 3) = false := by simpa using q3
  have AF : Hid (actF s j st a = (s, j, st, 0)) := by show _ = _; unfold actF; rw [if_neg q1, if_neg q2, if_neg q3]
  rw [AF.out]
  go_enter Try.func24, Try.ntmps24
  go_wp2
  go_ret
  exact ⟨rfl, X, A, n, cap, by (have h := G0.out; exact h), LGT.same K0.out⟩
end Go.Proofs.Ytfldgaiiniknpaa
