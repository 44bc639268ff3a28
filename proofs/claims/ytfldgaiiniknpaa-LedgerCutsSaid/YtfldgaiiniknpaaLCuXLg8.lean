
/- The walks of ledger's blank and with. -/
import Derived.Test.YtfldgaiiniknpaaLCuXLg7
namespace Go.Proofs.Ytfldgaiiniknpaa
open Go.RowKit

/-- A state's cells. -/
def St.cs (s : St) (A : Option Addr) (n cap : Nat) : List Value := s.c.cs ++ (.bool s.has :: s.k.cs A n cap)
def St.v (s : St) (A : Option Addr) (n cap : Nat) : Value := .agg (s.cs A n cap).toArray
structure St.ok (s : St) : Prop where
  c : s.c.ok
  k : s.k.ok
theorem St.inv.ok {s : St} (h : s.inv) : s.ok := ⟨h.co, h.ko⟩
theorem St.cs_len {s : St} (o : s.ok) (A : Option Addr) (n cap : Nat) : (s.cs A n cap).length = 82 := by simp [St.cs, Com.cs_len o.c, Chk.cs_len o.k]
theorem st0_ok : st0.ok := st0_inv.ok
theorem St.cs_com {s : St} (o : s.ok) (A : Option Addr) (n cap : Nat) (j : Nat) (v : Value) (h : s.c.cs[j]? = some v) : (s.cs A n cap)[j]? = some v := by
  have := (List.getElem?_eq_some_iff.1 h).1
  unfold St.cs
  rw [List.getElem?_append_left this]
  exact h
theorem St.cs_has {s : St} (o : s.ok) (A : Option Addr) (n cap : Nat) : (s.cs A n cap)[68]? = some (.bool s.has) := by
  unfold St.cs
  rw [List.getElem?_append_right (by rw [Com.cs_len o.c]; exact Nat.le_refl _), Com.cs_len o.c]
  rfl
theorem St.cs_chk {s : St} (o : s.ok) (A : Option Addr) (n cap : Nat) (j : Nat) (v : Value) (h : (s.k.cs A n cap)[j]? = some v) : (s.cs A n cap)[69 + j]? = some v := by
  unfold St.cs
  rw [List.getElem?_append_right (by rw [Com.cs_len o.c]; omega), Com.cs_len o.c, show 69 + j - 68 = j + 1 by omega]
  exact h
theorem St.cs_one (s : St) (A : Option Addr) (n cap : Nat) : ∀ v ∈ s.cs A n cap, v.oneCell' = true := by
  intro v hv
  unfold St.cs at hv
  rcases List.mem_append.1 hv with h | h
  · exact Com.cs_one _ v h
  · rcases List.mem_cons.1 h with rfl | h
    · rfl
    · exact Chk.cs_one _ _ _ _ v h
/-- What a function that gives a state answers. -/
def GotSt (w : World) (P : Nat → Prop) (s : St) (e : Ending) (w' : World) : Prop :=
  ∃ A n cap, e = .returned (s.v A n cap) ∧ ChkV w' (fun b => P b ∨ w.heap.size ≤ b) A n cap s.k.mid ∧ Keeps None w w'
theorem cell_res1 {fn : Func} {ty : TypeId} {d : TypeDesc} {p : Tmp} (hr : fn.results = #[.cell p ty]) (tmps : Array Value) {w : World} {g : Nat} {cs : List Value} {T : TypeId} (h : Blk w g cs T)
    (hu : (Try.prog).underlying ty = some d) (hd : d.isRow = true) (hi : ((Try.prog).info? ty).map (·.size) = some cs.length) (h2 : tmps.getD p undef = .pointer (some ⟨g, 0, none⟩)) :
    (results fn tmps).run Try.prog w = .ok (.agg cs.toArray) w := by
  rw [results_cell1 hr, h2]
  have e : (asAddr (.pointer (some ⟨g, 0, none⟩))).run Try.prog w = .ok ⟨g, 0, none⟩ w := rfl
  rw [e]
  simp only [Result.andThen]
  exact run_loadVar_mid w g 0 ty cs d (blk_range h (fun j v hv => by rw [Nat.zero_add]; exact hv)) hu hd hi
section
variable {ops : Array Oper} {rest : List Oper} {op : Oper} {a : Act} {w : World} {Q : Exit → Act → World → Prop}
theorem wpList_build_run {t : TypeId} {ps : Array (Nat × Operand)} {vs : Array (Nat × Value)} {cells : Array Value} (hm : (Try.prog).built t vs.toList = some cells) (hgd : op.guard = none) (ho : op.op = .build t ps) (he : (ps.map fun (i, x) => (i, a.eval x)) = vs)
    (hn : wpList Try.prog ops Q rest (a.put op.dst (.agg cells)) w) : wpList Try.prog ops Q (op :: rest) a w := by
  refine wpList_plain hgd fun K hK => ?_
  unfold Oper.wp execOp
  simp only [ho, he, Sem.run_bind, run_build w t vs cells hm, Result.andThen_ok]
  exact hK _ _ hn
end
theorem st_size : (Try.prog.info? 39).map (·.size) = some 82 := by kernel_rfl
theorem built_none : (Try.prog).built 25 #[(0, .int .i64 (-1))].toList = some st0.c.cs.toArray := by kernel_rfl
def stZ : St := ⟨com0, false, chk0⟩
theorem st_zero : Try.zeroCells39 = (stZ.cs none 0 0).toArray := by kernel_rfl
theorem stZ_ok : stZ.ok := ⟨com0_ok, chk0_ok⟩
theorem built_st0 (parts : List (Nat × Value)) : (Try.prog).built 39 parts = Instr.fill (fun x => [(0, 68), (68, 1), (69, 13)].toArray[x]?) (stZ.cs none 0 0).toArray parts := by kernel_rfl
theorem built_st {c : Com} (h : c.ok) : (Try.prog).built 39 #[(0, .agg c.cs.toArray)].toList = some ((⟨c, false, chk0⟩ : St).cs none 0 0).toArray := by
  rw [built_st0]
  show Instr.fill _ _ [(0, .agg c.cs.toArray)] = _
  rw [fill_splice (off := 0) (size := 68) (ds := c.cs) rfl rfl (Com.cs_len h) (by rw [St.cs_len stZ_ok]; decide)]
  unfold Instr.fill
  congr 2
  have e : com0.cs.length = c.cs.length := by rw [Com.cs_len com0_ok, Com.cs_len h]
  simp only [splice, St.cs, stZ, List.take_zero, List.nil_append, Nat.zero_add]
  rw [← e, List.drop_left]
set_option maxRecDepth 100000 in
set_option maxHeartbeats 1600000 in
theorem lgblank_any (w : World) : Calls Try.prog 42 #[] w (GotSt w (fun _ => False) st0) := by
  have NW := Lib.hid (Blk.new w (stZ.cs none 0 0) 39)
  have KW : Hid (Keeps None w (w.alloc (.cells (stZ.cs none 0 0).toArray 39))) := (Keeps.refl None w).alloc _
  rw [← st_zero] at NW KW
  go_enter Try.func42, Try.ntmps42
  go_wp2_with (first | (refine wpList_build_run built_none rfl rfl (by simp [Act.eval, Act.put]) ?_) | (refine wpList_build_run (built_st st0_ok.c) rfl rfl (by simp [Act.eval, Act.put]) ?_) | (refine wpList_store_blk (b := w.heap.size) (o := 0) (ds := st0.cs none 0 0) NW.out (by rw [St.cs_len st0_ok, St.cs_len stZ_ok]; decide) (St.cs_one _ _ _ _) rfl rfl rfl rfl (by rw [St.cs_len st0_ok]; exact st_size) ?_))
  intro w' hb hk
  rw [splice_all (by rw [St.cs_len st0_ok, St.cs_len stZ_ok])] at hb
  have HB := Lib.hid hb
  have HK := Lib.hid (KW.out.trans hk (T := None) (fun _ h => h) (fun b hb e => absurd e (by omega)))
  clear hb hk NW KW
  go_wp2
  refine bodyPost_ret (cell_res1 rfl _ HB.out Try.underlying39 rfl (by rw [St.cs_len st0_ok]; exact st_size) rfl) rfl ?_
  exact ⟨none, 0, 0, rfl, ChkV.nil _ _, HK.out⟩
theorem St.cs_chg {s : St} (o : s.ok) (A : Option Addr) (n cap : Nat) (h : Bool) {k : Chk} (ok : k.ok) (A' : Option Addr) (n' cap' : Nat) : splice ((s.cs A n cap).set 68 (.bool h)) 69 (k.cs A' n' cap') = ({ s with has := h, k := k } : St).cs A' n' cap' := by
  have l1 := Com.cs_len o.c
  have l2 := Chk.cs_len o.k A n cap
  have l3 := Chk.cs_len ok A' n' cap'
  have e : (s.cs A n cap).set 68 (.bool h) = (s.c.cs ++ [.bool h]) ++ s.k.cs A n cap := by
    unfold St.cs
    rw [List.set_append_right _ _ (by omega), l1]
    simp
  rw [e]
  simp only [splice]
  rw [List.take_left' (by simp [l1]), List.drop_eq_nil_of_le (by simp [l1, l2, l3])]
  simp [St.cs]
set_option maxRecDepth 100000 in
set_option maxHeartbeats 6400000 in
theorem lgwith_any (s : St) (os : s.ok) (A : Option Addr) (n cap : Nat) (P : Nat → Prop) (rk rseq : Int) (rA : Option Addr) (rn rc : Nat) (body : List Int) (w : World) (hk : ChkV w P A n cap s.k.mid) (hb : Bs w rA rn rc body) :
    Calls Try.prog 43 #[s.v A n cap, .agg #[.int .i64 rk, .int .i64 rseq, .slice rA rn rc]] w (GotSt w P (stepS s ⟨rk, rseq, body⟩)) := by
  have OS := Lib.hid os
  have HB := Lib.hid hb
  have HM := Lib.hid hk
  obtain ⟨w3, hw3⟩ : ∃ x, ((w.alloc (.cells (s.cs A n cap).toArray 39)).alloc (.cells #[.int .i64 rk, .int .i64 rseq, .slice rA rn rc] 58)).alloc (.cells Try.zeroCells39 39) = x := ⟨_, rfl⟩
  have SB : Hid (Blk w3 w.heap.size (s.cs A n cap) 39) := by rw [← hw3]; exact ((Blk.new w (s.cs A n cap) 39).alloc _).alloc _
  have XB : Hid (Blk w3 (w.heap.size + 1) [.int .i64 rk, .int .i64 rseq, .slice rA rn rc] 58) := by
    rw [← hw3]
    have h := (Blk.new (w.alloc (.cells (s.cs A n cap).toArray 39)) [.int .i64 rk, .int .i64 rseq, .slice rA rn rc] 58).alloc (.cells Try.zeroCells39 39)
    rw [show (w.alloc (.cells (s.cs A n cap).toArray 39)).heap.size = w.heap.size + 1 by simp] at h
    exact h
  have RB : Hid (Blk w3 (w.heap.size + 1 + 1) (stZ.cs none 0 0) 39) := by
    rw [← hw3, st_zero]
    have h := Blk.new ((w.alloc (.cells (s.cs A n cap).toArray 39)).alloc (.cells #[.int .i64 rk, .int .i64 rseq, .slice rA rn rc] 58)) (stZ.cs none 0 0) 39
    rw [show ((w.alloc (.cells (s.cs A n cap).toArray 39)).alloc (.cells #[.int .i64 rk, .int .i64 rseq, .slice rA rn rc] 58)).heap.size = w.heap.size + 1 + 1 by simp] at h
    exact h
  have KB : Hid (Keeps None w w3) := by rw [← hw3]; exact (((Keeps.refl None w).alloc _).alloc _).alloc _
  have S3 : w3.heap.size = w.heap.size + 1 + 1 + 1 := by rw [← hw3]; simp
  unfold St.v
  obtain ⟨V, hV⟩ : ∃ V, (s.cs A n cap).toArray = V := ⟨_, rfl⟩
  rw [hV] at hw3 ⊢
  have HV := Lib.hid hV
  have x0 := XB.out.cellD 0 _ rfl
  have x2 := XB.out.cellD 2 _ rfl
  clear hV os hk hb
  by_cases q2 : rk = 2
  · subst q2
    have GET := Lib.hid (fun w h => lggetc_any rA rn rc body w h)
    have GO : Hid ((getCom body).1.ok) := by
      show (getCom body).1.ok
      unfold getCom
      split
      · rename_i h; exact comP_ok HB.out.byte h.1
      · exact com0_ok
    have EQ : Hid (stepS s ⟨2, rseq, body⟩ = if (getCom body).2 = true then ⟨{ (getCom body).1 with fl := max (getCom body).1.fl s.c.fl }, false, chk0⟩ else s) := by show stepS _ _ = _; unfold stepS; simp
    obtain ⟨G, hG⟩ : ∃ G, (getCom body).1 = G := ⟨_, rfl⟩
    obtain ⟨ok, hok⟩ : ∃ b, (getCom body).2 = b := ⟨_, rfl⟩
    rw [hG, hok] at EQ GET
    rw [hG] at GO
    clear hG hok
    unfold Com.v at GET
    go_enter Try.func43, Try.ntmps43
    go_wp2_with fail
    refine (GET.out _ (HB.out.keeps KB.out (fun _ _ _ _ _ h => h))).mono ?_
    rintro e w4 ⟨rfl, k4⟩
    have NW := Lib.hid (Blk.new w4 com0.cs 25)
    have KW : Hid (Keeps None w4 (w4.alloc (.cells com0.cs.toArray 25))) := (Keeps.refl None w4).alloc _
    have K4 := Lib.hid k4
    have S4 : w.heap.size + 1 + 1 + 1 ≤ w4.heap.size := by have := k4.size; omega
    rw [← com_zero] at NW KW
    clear k4 x0 x2 GET
    go_wp2_with (refine wpList_store_blk (b := w4.heap.size) (o := 0) (ds := G.cs) NW.out (by rw [Com.cs_len GO.out]; decide) (Com.cs_one _) rfl rfl rfl rfl (by rw [Com.cs_len GO.out]; exact com_size) ?_)
    intro w5 b5 k5
    rw [splice_all (by rw [Com.cs_len GO.out]; rfl)] at b5
    have GB := Lib.hid b5
    have K45 := Lib.hid (KW.out.trans k5 (T := None) (fun _ h => h) (fun b hb e => absurd e (by omega)))
    have K35 := Lib.hid (K4.out.trans K45.out (T := None) (fun _ h => h) (fun _ _ h => h))
    have SB5 := Lib.hid (K35.out.blk SB.out (fun h => h))
    have RB5 := Lib.hid (K35.out.blk RB.out (fun h => h))
    have KB5 := Lib.hid (KB.out.trans K35.out (T := None) (fun _ h => h) (fun _ _ h => h))
    clear b5 k5 NW KW K4 K45
    have c2 := GB.out.cellD 2 _ rfl
    have f2 := GB.out.frozen 2
    have s2 := SB5.out.cellD 2 _ (St.cs_com OS.out A n cap 2 _ rfl)
    cases ok with
    | true =>
      have EQ2 : Hid (stepS s ⟨2, rseq, body⟩ = ⟨⟨G.slot, G.ver, max G.fl s.c.fl, G.len, G.me⟩, false, chk0⟩) := EQ.out
      by_cases hm : G.fl < s.c.fl
      · skip
        have M2 : max G.fl s.c.fl = s.c.fl := by omega
        rw [M2] at EQ2
        obtain ⟨C, hC⟩ : ∃ C : Com, (⟨G.slot, G.ver, s.c.fl, G.len, G.me⟩ : Com) = C := ⟨_, rfl⟩
        have CO : Hid C.ok := by show C.ok; rw [← hC]; exact ⟨GO.out.v, (by have := GO.out.f; have := OS.out.c.f; show s.c.fl < _; omega), GO.out.ml, GO.out.mb⟩
        have GB2 : Hid (Blk (w5.setCell ⟨w4.heap.size, 2, none⟩ (.int .u64 ((s.c.fl : Nat) : Int))) w4.heap.size C.cs 25) := by rw [← hC]; exact GB.out.set 2 (.int .u64 ((s.c.fl : Nat) : Int))
        have RB6 := Lib.hid (RB5.out.setOther ⟨w4.heap.size, 2, none⟩ (.int .u64 ((s.c.fl : Nat) : Int)) (show ¬ w.heap.size + 1 + 1 = w4.heap.size by omega))
        have KB6 := Lib.hid (KB5.out.setCell ⟨w4.heap.size, 2, none⟩ (.int .u64 ((s.c.fl : Nat) : Int)) (fun h => absurd (show w4.heap.size < w.heap.size from h) (by omega)))
        have OS2 : Hid ((⟨C, false, chk0⟩ : St).ok) := ⟨CO.out, chk0_ok⟩
        have BS2 := Lib.hid (built_st CO.out)
        rw [hC] at EQ2
        clear hC M2
        go_wp2_with (first | (refine wpList_load_blk (b := w4.heap.size) (o := 0) (ds := C.cs) GB2.out (fun j v hv => by rw [Nat.zero_add]; exact hv) rfl rfl rfl Try.underlying25 rfl (by rw [Com.cs_len CO.out]; exact com_size) ?_) | (refine wpList_build_run BS2.out rfl rfl (by simp [Act.eval, Act.put]) ?_) | (refine wpList_store_blk (b := w.heap.size + 1 + 1) (o := 0) (ds := (⟨C, false, chk0⟩ : St).cs none 0 0) RB6.out (by rw [St.cs_len OS2.out, St.cs_len stZ_ok]; decide) (St.cs_one _ _ _ _) rfl rfl rfl rfl (by rw [St.cs_len OS2.out]; exact st_size) ?_))
        intro wz hbz hkz
        rw [splice_all (by rw [St.cs_len OS2.out, St.cs_len stZ_ok])] at hbz
        have HBZ := Lib.hid hbz
        have HKZ := Lib.hid (KB6.out.trans hkz (T := None) (fun _ h => h) (fun b hb e => absurd e (by omega)))
        clear hbz hkz c2 f2 s2
        go_wp2
        refine bodyPost_ret (cell_res1 rfl _ HBZ.out Try.underlying39 rfl (by rw [St.cs_len OS2.out]; exact st_size) rfl) rfl ?_
        exact ⟨none, 0, 0, by rw [EQ2.out]; rfl, by rw [EQ2.out]; exact ChkV.nil _ _, HKZ.out⟩
      · skip
        have M2 : max G.fl s.c.fl = G.fl := by omega
        rw [M2] at EQ2
        obtain ⟨C, hC⟩ : ∃ C : Com, (⟨G.slot, G.ver, G.fl, G.len, G.me⟩ : Com) = C := ⟨_, rfl⟩
        have CO : Hid C.ok := by show C.ok; rw [← hC]; exact ⟨GO.out.v, (by have := GO.out.f; have := OS.out.c.f; show G.fl < _; omega), GO.out.ml, GO.out.mb⟩
        have GB2 : Hid (Blk (w5.setCell ⟨w4.heap.size, 2, none⟩ (.int .u64 ((G.fl : Nat) : Int))) w4.heap.size C.cs 25) := by rw [← hC]; exact GB.out.set 2 (.int .u64 ((G.fl : Nat) : Int))
        have RB6 := Lib.hid (RB5.out.setOther ⟨w4.heap.size, 2, none⟩ (.int .u64 ((G.fl : Nat) : Int)) (show ¬ w.heap.size + 1 + 1 = w4.heap.size by omega))
        have KB6 := Lib.hid (KB5.out.setCell ⟨w4.heap.size, 2, none⟩ (.int .u64 ((G.fl : Nat) : Int)) (fun h => absurd (show w4.heap.size < w.heap.size from h) (by omega)))
        have OS2 : Hid ((⟨C, false, chk0⟩ : St).ok) := ⟨CO.out, chk0_ok⟩
        have BS2 := Lib.hid (built_st CO.out)
        rw [hC] at EQ2
        clear hC M2
        go_wp2_with (first | (refine wpList_load_blk (b := w4.heap.size) (o := 0) (ds := C.cs) GB2.out (fun j v hv => by rw [Nat.zero_add]; exact hv) rfl rfl rfl Try.underlying25 rfl (by rw [Com.cs_len CO.out]; exact com_size) ?_) | (refine wpList_build_run BS2.out rfl rfl (by simp [Act.eval, Act.put]) ?_) | (refine wpList_store_blk (b := w.heap.size + 1 + 1) (o := 0) (ds := (⟨C, false, chk0⟩ : St).cs none 0 0) RB6.out (by rw [St.cs_len OS2.out, St.cs_len stZ_ok]; decide) (St.cs_one _ _ _ _) rfl rfl rfl rfl (by rw [St.cs_len OS2.out]; exact st_size) ?_))
        intro wz hbz hkz
        rw [splice_all (by rw [St.cs_len OS2.out, St.cs_len stZ_ok])] at hbz
        have HBZ := Lib.hid hbz
        have HKZ := Lib.hid (KB6.out.trans hkz (T := None) (fun _ h => h) (fun b hb e => absurd e (by omega)))
        clear hbz hkz c2 f2 s2
        go_wp2
        refine bodyPost_ret (cell_res1 rfl _ HBZ.out Try.underlying39 rfl (by rw [St.cs_len OS2.out]; exact st_size) rfl) rfl ?_
        exact ⟨none, 0, 0, by rw [EQ2.out]; rfl, by rw [EQ2.out]; exact ChkV.nil _ _, HKZ.out⟩
    | false =>
      -- region 13: the state as it stands, into the result; s the state, A n cap its slice, SB5 the state's block, RB5 the result's, KB5 keeping, (HM.out.lt.later KB5.out) what is known of the checkpoint, (by have h1 := hb.2; omega) why the checkpoint's bytes are not there, OS the state's fact OK
      go_wp2_with (first | (refine wpList_load_blk (b := w.heap.size) (o := 0) (ds := St.cs s A n cap) SB5.out (fun j v hv => by rw [Nat.zero_add]; exact hv) rfl rfl rfl Try.underlying39 rfl (by rw [St.cs_len OS.out]; exact st_size) ?_) | (refine wpList_store_blk (b := w.heap.size + 1 + 1) (o := 0) (ds := St.cs s A n cap) RB5.out (by rw [St.cs_len OS.out, St.cs_len stZ_ok]; decide) (St.cs_one _ _ _ _) rfl rfl rfl rfl (by rw [St.cs_len OS.out]; exact st_size) ?_))
      intro wz hbz hkz
      rw [splice_all (by rw [St.cs_len OS.out, St.cs_len stZ_ok])] at hbz
      have HBZ := Lib.hid hbz
      have HKZ := Lib.hid (KB5.out.trans hkz (T := None) (fun _ h => h) (fun b hb e => absurd e (by omega)))
      have HMZ := Lib.hid ((HM.out.lt.later KB5.out).keeps hkz (fun b hb e => (by have h1 := hb.2; omega)))
      clear hbz hkz
      go_wp2
      refine bodyPost_ret (cell_res1 rfl _ HBZ.out Try.underlying39 rfl (by rw [St.cs_len OS.out]; exact st_size) rfl) rfl ?_
      exact ⟨A, n, cap, by rw [EQ.out]; rfl, by rw [EQ.out]; exact HMZ.out.mono (fun b hb => .inl hb.1), HKZ.out⟩
  have d2 : (rk == 2) = false := by simpa using q2
  by_cases q3 : rk = 3
  · subst q3
    have GET := Lib.hid (fun w h => lggetk_any rA rn rc body w h)
    have GO : Hid ((getChk body).1.ok) := by
      show (getChk body).1.ok
      unfold getChk
      split
      · rename_i h; exact chkP_ok HB.out.byte h.1
      · exact chk0_ok
    have EQ : Hid (stepS s ⟨3, rseq, body⟩ = if (getChk body).2 = true then { s with has := true, k := (getChk body).1 } else s) := by show stepS _ _ = _; unfold stepS; simp
    unfold GotChk at GET
    obtain ⟨G, hG⟩ : ∃ G, (getChk body).1 = G := ⟨_, rfl⟩
    obtain ⟨ok, hok⟩ : ∃ b, (getChk body).2 = b := ⟨_, rfl⟩
    rw [hG, hok] at EQ GET
    rw [hG] at GO
    clear hG hok
    unfold Chk.v at GET
    go_enter Try.func43, Try.ntmps43
    go_wp2_with fail
    refine (GET.out _ (HB.out.keeps KB.out (fun _ _ _ _ _ h => h))).mono ?_
    rintro e w4 ⟨gA, gn, gc, rfl, m4, k4⟩
    have M4 := Lib.hid m4
    have NW := Lib.hid (Blk.new w4 (chk0.cs none 0 0) 29)
    have KW : Hid (Keeps None w4 (w4.alloc (.cells (chk0.cs none 0 0).toArray 29))) := (Keeps.refl None w4).alloc _
    have K4 := Lib.hid k4
    have S4 : w.heap.size + 1 + 1 + 1 ≤ w4.heap.size := by have := k4.size; omega
    rw [← chk_zero] at NW KW
    clear m4 k4 x0 x2 GET
    go_wp2_with (refine wpList_store_blk (b := w4.heap.size) (o := 0) (ds := G.cs gA gn gc) NW.out (by rw [Chk.cs_len GO.out]; decide) (Chk.cs_one _ _ _ _) rfl rfl rfl rfl (by rw [Chk.cs_len GO.out]; exact chk_size) ?_)
    intro w5 b5 k5
    rw [splice_all (by rw [Chk.cs_len GO.out]; rfl)] at b5
    have GB := Lib.hid b5
    have K45 := Lib.hid (KW.out.trans k5 (T := None) (fun _ h => h) (fun b hb e => absurd e (by omega)))
    have K35 := Lib.hid (K4.out.trans K45.out (T := None) (fun _ h => h) (fun _ _ h => h))
    have SB5 := Lib.hid (K35.out.blk SB.out (fun h => h))
    have RB5 := Lib.hid (K35.out.blk RB.out (fun h => h))
    have KB5 := Lib.hid (KB.out.trans K35.out (T := None) (fun _ h => h) (fun _ _ h => h))
    have M5 := Lib.hid (M4.out.lt.keeps K45.out (fun _ _ h => h))
    clear b5 k5 NW KW K4 K45 M4
    cases ok with
    | true =>
      have OS2 : Hid (({ s with has := true, k := G } : St).ok) := ⟨OS.out.c, GO.out⟩
      go_wp2
      have f68 := SB5.out.drew.frozen 68
      have x68 := SB5.out.drew.cellD 68 _ (St.cs_has OS.out A n cap)
      have LDC : Hid (∀ w', Keeps (fun k => k = w.heap.size) w5 w' → (Instr.loadAt 29 (.pointer (some ⟨w4.heap.size, 0, none⟩))).run Try.prog w' = .ok (.agg (G.cs gA gn gc).toArray) w') := fun w' k =>
        run_loadAt_mid w' w4.heap.size 0 29 (G.cs gA gn gc) _ (blk_range (k.blk GB.out (by omega)) (fun j v hv => by rw [Nat.zero_add]; exact hv)) Try.underlying29 rfl (by rw [Chk.cs_len GO.out]; exact chk_size)
      have K5r := Lib.hid (Keeps.refl (fun k => k = w.heap.size) w5)
      have SB6 := Lib.hid (SB5.out.set 68 (.bool true)).drew
      have K56 := Lib.hid (K5r.out.setCell ⟨w.heap.size, 68, none⟩ (.bool true) (fun _ => rfl)).drew
      obtain ⟨mS, mh⟩ : ∃ S : World → Prop, ∀ w', S w' ↔ (((Instr.loadAt 29 (.pointer (some ⟨w4.heap.size, 0, none⟩))).run Try.prog w' = .ok (.agg (G.cs gA gn gc).toArray) w')) := ⟨_, fun _ => Iff.rfl⟩
      have mk0 : ∀ x : Memb mS, (Instr.loadAt 29 (.pointer (some ⟨w4.heap.size, 0, none⟩))).run Try.prog x.at_ = .ok (.agg (G.cs gA gn gc).toArray) x.at_ := fun x => ((mh _).1 x.is)
      have mn : Nonempty (Memb mS) := ⟨⟨(w5).drew, (mh _).2 (LDC.out _ K5r.out.drew)⟩⟩
      have mH := Lib.hid mh
      clear mh
      refine wp_region_mix [2, 4] (InS mS) (by kernel_rfl) (by kernel_rfl) (InS.mk ((mH.out _).2 (LDC.out _ K5r.out.drew))) ?_
      refine wpMix_seg 2 (by kernel_rfl) (by decide) ?_
      simp only [List.take_succ_cons, List.take_zero, List.drop_succ_cons, List.drop_zero]
      repeat (first | go_big_quiet_step (fail) | (go_big_quiet_want; first | refine quiet_load mk0 rfl rfl rfl (by simp only [Act.put, List.setIfInBounds_toArray, List.set_cons_succ, List.set_cons_zero]; rfl) ?_; go_big_quiet_on))
      refine wpQuiet_nil ?_
      refine wpMix_eff (by kernel_rfl) ?_
      go_wp2
      refine MixK.on (InS.mk ((mH.out _).2 (LDC.out _ K56.out))) ?_
      refine wpMix_seg 1 (by kernel_rfl) (by decide) ?_
      simp only [List.take_succ_cons, List.take_zero, List.drop_succ_cons, List.drop_zero]
      repeat (first | go_big_quiet_step (fail) | (go_big_quiet_want; first | refine quiet_load mk0 rfl rfl rfl (by simp only [Act.put, List.setIfInBounds_toArray, List.set_cons_succ, List.set_cons_zero]; rfl) ?_; go_big_quiet_on))
      refine wpQuiet_nil ?_
      refine wpMix_eff (by kernel_rfl) ?_
      go_wp2_with (refine wpList_store_blk (b := w.heap.size) (o := 69) (ds := G.cs gA gn gc) SB6.out (by rw [List.length_set, St.cs_len OS.out, Chk.cs_len GO.out]; decide) (Chk.cs_one _ _ _ _) rfl rfl rfl rfl (by rw [Chk.cs_len GO.out]; exact chk_size) ?_)
      intro w6 b6 k6
      rw [St.cs_chg OS.out A n cap true GO.out gA gn gc] at b6
      have SB7 := Lib.hid b6
      have K57 := Lib.hid (K56.out.trans k6 (fun _ h => h) (fun _ _ h => h))
      clear b6 k6
      go_wp2
      refine MixK.on (InS.mk ((mH.out _).2 (LDC.out _ K57.out))) ?_
      refine wpMix_nil ?_
      clear mk0 mn mH
      have RB7 := Lib.hid (K57.out.blk RB5.out (by omega))
      have KB7 := Lib.hid (KB5.out.trans K57.out (T := None) (fun _ h => h) (fun b hb e => absurd e (by omega)))
      have M7 := Lib.hid (M5.out.keeps K57.out (fun b hb e => by have h1 := hb.1; omega))
      clear SB6 K56 f68 x68 LDC
      -- region 13: the state as it stands, into the result; ({ s with has := true, k := G } : St) the state, gA gn gc its slice, SB7 the state's block, RB7 the result's, KB7 keeping, M7.out what is known of the checkpoint, (by have h1 := hb.1; omega) why the checkpoint's bytes are not there, OS2 the state's fact OK
      go_wp2_with (first | (refine wpList_load_blk (b := w.heap.size) (o := 0) (ds := St.cs ({ s with has := true, k := G } : St) gA gn gc) SB7.out (fun j v hv => by rw [Nat.zero_add]; exact hv) rfl rfl rfl Try.underlying39 rfl (by rw [St.cs_len OS2.out]; exact st_size) ?_) | (refine wpList_store_blk (b := w.heap.size + 1 + 1) (o := 0) (ds := St.cs ({ s with has := true, k := G } : St) gA gn gc) RB7.out (by rw [St.cs_len OS2.out, St.cs_len stZ_ok]; decide) (St.cs_one _ _ _ _) rfl rfl rfl rfl (by rw [St.cs_len OS2.out]; exact st_size) ?_))
      intro wz hbz hkz
      rw [splice_all (by rw [St.cs_len OS2.out, St.cs_len stZ_ok])] at hbz
      have HBZ := Lib.hid hbz
      have HKZ := Lib.hid (KB7.out.trans hkz (T := None) (fun _ h => h) (fun b hb e => absurd e (by omega)))
      have HMZ := Lib.hid (M7.out.keeps hkz (fun b hb e => (by have h1 := hb.1; omega)))
      clear hbz hkz
      go_wp2
      refine bodyPost_ret (cell_res1 rfl _ HBZ.out Try.underlying39 rfl (by rw [St.cs_len OS2.out]; exact st_size) rfl) rfl ?_
      exact ⟨gA, gn, gc, by rw [EQ.out]; rfl, by rw [EQ.out]; exact HMZ.out.mono (fun b hb => .inr (by have h1 := hb.1; omega)), HKZ.out⟩
    | false =>
      -- region 13: the state as it stands, into the result; s the state, A n cap its slice, SB5 the state's block, RB5 the result's, KB5 keeping, (HM.out.lt.later KB5.out) what is known of the checkpoint, (by have h1 := hb.2; omega) why the checkpoint's bytes are not there, OS the state's fact OK
      go_wp2_with (first | (refine wpList_load_blk (b := w.heap.size) (o := 0) (ds := St.cs s A n cap) SB5.out (fun j v hv => by rw [Nat.zero_add]; exact hv) rfl rfl rfl Try.underlying39 rfl (by rw [St.cs_len OS.out]; exact st_size) ?_) | (refine wpList_store_blk (b := w.heap.size + 1 + 1) (o := 0) (ds := St.cs s A n cap) RB5.out (by rw [St.cs_len OS.out, St.cs_len stZ_ok]; decide) (St.cs_one _ _ _ _) rfl rfl rfl rfl (by rw [St.cs_len OS.out]; exact st_size) ?_))
      intro wz hbz hkz
      rw [splice_all (by rw [St.cs_len OS.out, St.cs_len stZ_ok])] at hbz
      have HBZ := Lib.hid hbz
      have HKZ := Lib.hid (KB5.out.trans hkz (T := None) (fun _ h => h) (fun b hb e => absurd e (by omega)))
      have HMZ := Lib.hid ((HM.out.lt.later KB5.out).keeps hkz (fun b hb e => (by have h1 := hb.2; omega)))
      clear hbz hkz
      go_wp2
      refine bodyPost_ret (cell_res1 rfl _ HBZ.out Try.underlying39 rfl (by rw [St.cs_len OS.out]; exact st_size) rfl) rfl ?_
      exact ⟨A, n, cap, by rw [EQ.out]; rfl, by rw [EQ.out]; exact HMZ.out.mono (fun b hb => .inl hb.1), HKZ.out⟩
  have d3 : (rk == 3) = false := by simpa using q3
  by_cases q4 : rk = 4
  · subst q4
    have EQ : Hid (stepS s ⟨4, rseq, body⟩ = { s with has := false, k := chk0 }) := by show stepS _ _ = _; unfold stepS; simp
    have OS2 : Hid (({ s with has := false, k := chk0 } : St).ok) := ⟨OS.out.c, chk0_ok⟩
    have x68 := SB.out.cellD 68 _ (St.cs_has OS.out A n cap)
    have f68 := SB.out.frozen 68
    have SB4 := Lib.hid (SB.out.set 68 (.bool false))
    go_enter Try.func43, Try.ntmps43
    go_wp2_with (refine wpList_store_blk (b := w.heap.size) (o := 69) (ds := chk0.cs none 0 0) SB4.out (by rw [List.length_set, St.cs_len OS.out]; decide) (Chk.cs_one _ _ _ _) rfl rfl rfl rfl chk_size ?_)
    intro w5 b5 k5
    rw [St.cs_chg OS.out A n cap false chk0_ok none 0 0] at b5
    have SB5 := Lib.hid b5
    have K35 : Hid (Keeps (fun k => k = w.heap.size) w3 w5) := ((Keeps.refl (fun k => k = w.heap.size) w3).setCell ⟨w.heap.size, 68, none⟩ (.bool false) (fun _ => rfl)).trans k5 (fun _ h => h) (fun _ _ h => h)
    have RB5 := Lib.hid (K35.out.blk RB.out (by omega))
    have KB5 := Lib.hid (KB.out.trans K35.out (T := None) (fun _ h => h) (fun b hb e => absurd e (by omega)))
    clear b5 k5 SB4 x0 x2 x68 f68
    -- region 13: the state as it stands, into the result; ({ s with has := false, k := chk0 } : St) the state, none 0 0 its slice, SB5 the state's block, RB5 the result's, KB5 keeping, (ChkV.nil w5 (fun b => b < w.heap.size)) what is known of the checkpoint, (by omega) why the checkpoint's bytes are not there, OS2 the state's fact OK
    go_wp2_with (first | (refine wpList_load_blk (b := w.heap.size) (o := 0) (ds := St.cs ({ s with has := false, k := chk0 } : St) none 0 0) SB5.out (fun j v hv => by rw [Nat.zero_add]; exact hv) rfl rfl rfl Try.underlying39 rfl (by rw [St.cs_len OS2.out]; exact st_size) ?_) | (refine wpList_store_blk (b := w.heap.size + 1 + 1) (o := 0) (ds := St.cs ({ s with has := false, k := chk0 } : St) none 0 0) RB5.out (by rw [St.cs_len OS2.out, St.cs_len stZ_ok]; decide) (St.cs_one _ _ _ _) rfl rfl rfl rfl (by rw [St.cs_len OS2.out]; exact st_size) ?_))
    intro wz hbz hkz
    rw [splice_all (by rw [St.cs_len OS2.out, St.cs_len stZ_ok])] at hbz
    have HBZ := Lib.hid hbz
    have HKZ := Lib.hid (KB5.out.trans hkz (T := None) (fun _ h => h) (fun b hb e => absurd e (by omega)))
    have HMZ := Lib.hid ((ChkV.nil w5 (fun b => b < w.heap.size)).keeps hkz (fun b hb e => (by omega)))
    clear hbz hkz
    go_wp2
    refine bodyPost_ret (cell_res1 rfl _ HBZ.out Try.underlying39 rfl (by rw [St.cs_len OS2.out]; exact st_size) rfl) rfl ?_
    exact ⟨none, 0, 0, by rw [EQ.out]; rfl, by rw [EQ.out]; exact ChkV.nil _ _, HKZ.out⟩
  have d4 : (rk == 4) = false := by simpa using q4
  have EQ : Hid (stepS s ⟨rk, rseq, body⟩ = s) := by show stepS _ _ = _; unfold stepS; simp [q2, q3, q4]
  go_enter Try.func43, Try.ntmps43
  -- region 13: the state as it stands, into the result; s the state, A n cap its slice, SB the state's block, RB the result's, KB keeping, (HM.out.lt.later KB.out) what is known of the checkpoint, (by have h1 := hb.2; omega) why the checkpoint's bytes are not there, OS the state's fact OK
  go_wp2_with (first | (refine wpList_load_blk (b := w.heap.size) (o := 0) (ds := St.cs s A n cap) SB.out (fun j v hv => by rw [Nat.zero_add]; exact hv) rfl rfl rfl Try.underlying39 rfl (by rw [St.cs_len OS.out]; exact st_size) ?_) | (refine wpList_store_blk (b := w.heap.size + 1 + 1) (o := 0) (ds := St.cs s A n cap) RB.out (by rw [St.cs_len OS.out, St.cs_len stZ_ok]; decide) (St.cs_one _ _ _ _) rfl rfl rfl rfl (by rw [St.cs_len OS.out]; exact st_size) ?_))
  intro wz hbz hkz
  rw [splice_all (by rw [St.cs_len OS.out, St.cs_len stZ_ok])] at hbz
  have HBZ := Lib.hid hbz
  have HKZ := Lib.hid (KB.out.trans hkz (T := None) (fun _ h => h) (fun b hb e => absurd e (by omega)))
  have HMZ := Lib.hid ((HM.out.lt.later KB.out).keeps hkz (fun b hb e => (by have h1 := hb.2; omega)))
  clear hbz hkz
  go_wp2
  refine bodyPost_ret (cell_res1 rfl _ HBZ.out Try.underlying39 rfl (by rw [St.cs_len OS.out]; exact st_size) rfl) rfl ?_
  exact ⟨A, n, cap, by rw [EQ.out]; rfl, by rw [EQ.out]; exact HMZ.out.mono (fun b hb => .inl hb.1), HKZ.out⟩
end Go.Proofs.Ytfldgaiiniknpaa
