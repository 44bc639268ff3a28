
/- Texts put together: Lg8, Lg9, Lg10, Jp2, Jp3, Jp4, SealTn, Jp5, Jl, Jl2, Jl3, Lg11, Lg12, JlCut, Lg13. -/
import Derived.Test.YtobgbilanibodaaGreatLPlf
import Derived.Test.YtobgbilanibodaaGreatLPle
import Derived.Test.YtobgbilanibodaaGreatLPlb
namespace Go.Proofs.YtobgbilanibodaaGreat
open Go.RowKit
def St.cs (s : St) (A : Option Addr) (n cap : Nat) : List Value := s.c.cs ++ (.bool s.has :: s.k.cs A n cap)
def St.v (s : St) (A : Option Addr) (n cap : Nat) : Value := .agg (s.cs A n cap).toArray
structure St.ok (s : St) : Prop where
  c : s.c.ok
  k : s.k.ok
theorem St.inv.ok {s : St} (h : s.inv) : s.ok := ⟨h.co, h.ko⟩
theorem St.cs_len {s : St} (o : s.ok) (A : Option Addr) (n cap : Nat) : (s.cs A n cap).length = 82 := by simp [St.cs, Com.cs_len o.c, Chk.cs_len o.k]
theorem st0_ok : st0.ok := st0_inv.ok
theorem St.cs_com {s : St} (o : s.ok) (A : Option Addr) (n cap : Nat) (j : Nat) (v : Value) (h : s.c.cs[j]? = some v) : (s.cs A n cap)[j]? = some v := by
 have := (List.getElem?_eq_some_iff.1 h).1
 unfold St.cs
 rw [List.getElem?_append_left this]
 exact h
theorem St.cs_has {s : St} (o : s.ok) (A : Option Addr) (n cap : Nat) : (s.cs A n cap)[68]? = some (.bool s.has) := by
 unfold St.cs
 rw [List.getElem?_append_right (by rw [Com.cs_len o.c]; exact Nat.le_refl _), Com.cs_len o.c]
 rfl
theorem St.cs_chk {s : St} (o : s.ok) (A : Option Addr) (n cap : Nat) (j : Nat) (v : Value) (h : (s.k.cs A n cap)[j]? = some v) : (s.cs A n cap)[69 + j]? = some v := by
 unfold St.cs
 rw [List.getElem?_append_right (by rw [Com.cs_len o.c]; omega), Com.cs_len o.c, show 69 + j - 68 = j + 1 by omega]
 exact h
theorem St.cs_one (s : St) (A : Option Addr) (n cap : Nat) : ∀ v ∈ s.cs A n cap, v.oneCell' = true := by
 intro v hv
 unfold St.cs at hv
 rcases List.mem_append.1 hv with h | h
 ·exact Com.cs_one _ v h
 ·rcases List.mem_cons.1 h with rfl | h
  ·rfl
  ·exact Chk.cs_one _ _ _ _ v h
def GotSt (w : World) (P : Nat → Prop) (s : St) (e : Ending) (w' : World) : Prop :=
  ∃ A n cap, e = .returned (s.v A n cap) ∧ ChkV w' (fun b => P b ∨ w.heap.size ≤ b) A n cap s.k.mid ∧ Keeps None w w'
theorem cell_res1 {fn : Func} {ty : TypeId} {d : TypeDesc} {p : Tmp} (hr : fn.results = #[.cell p ty]) (tmps : Array Value) {w : World} {g : Nat} {cs : List Value} {T : TypeId} (h : Blk w g cs T)
    (hu : (Tryz.prog).underlying ty = some d) (hd : d.isRow = true) (hi : ((Tryz.prog).info? ty).map (·.size) = some cs.length) (h2 : tmps.getD p undef = .pointer (some ⟨g, 0, none⟩)) :
    (results fn tmps).run Tryz.prog w = .ok (.agg cs.toArray) w := by
 rw [results_cell1 hr, h2]
 have e : (asAddr (.pointer (some ⟨g, 0, none⟩))).run Tryz.prog w = .ok ⟨g, 0, none⟩ w := rfl
 rw [e]
 simp only [Result.andThen]
 exact run_loadVar_mid w g 0 ty cs d (blk_range h (fun j v hv => by rw [Nat.zero_add]; exact hv)) hu hd hi
section
variable {ops : Array Oper} {rest : List Oper} {op : Oper} {a : Act} {w : World} {Q : Exit → Act → World → Prop}
theorem wpList_build_run {t : TypeId} {ps : Array (Nat × Operand)} {vs : Array (Nat × Value)} {cells : Array Value} (hm : (Tryz.prog).built t vs.toList = some cells) (hgd : op.guard = none) (ho : op.op = .build t ps) (he : (ps.map fun (i, x) => (i, a.eval x)) = vs)
    (hn : wpList Tryz.prog ops Q rest (a.put op.dst (.agg cells)) w) : wpList Tryz.prog ops Q (op :: rest) a w := by
 refine wpList_plain hgd fun K hK => ?_
 unfold Oper.wp execOp
 simp only [ho, he, Sem.run_bind, run_build w t vs cells hm, Result.andThen_ok]
 exact hK _ _ hn
end
theorem st_size : (Tryz.prog.info? 58).map (·.size) = some 82 := by kernel_rfl
theorem built_none : (Tryz.prog).built 41 #[(0, .int .i64 (-1))].toList = some st0.c.cs.toArray := by kernel_rfl
def stZ : St := ⟨com0, false, chk0⟩
theorem st_zero : Tryz.zeroCells58 = (stZ.cs none 0 0).toArray := by kernel_rfl
theorem stZ_ok : stZ.ok := ⟨com0_ok, chk0_ok⟩
theorem built_st0 (parts : List (Nat × Value)) : (Tryz.prog).built 58 parts = Instr.fill (fun x => [(0, 68), (68, 1), (69, 13)].toArray[x]?) (stZ.cs none 0 0).toArray parts := by kernel_rfl
theorem built_st {c : Com} (h : c.ok) : (Tryz.prog).built 58 #[(0, .agg c.cs.toArray)].toList = some ((⟨c, false, chk0⟩ : St).cs none 0 0).toArray := by
 rw [built_st0]
 show Instr.fill _ _ [(0, .agg c.cs.toArray)] = _
 rw [fill_splice (off := 0) (size := 68) (ds := c.cs) rfl rfl (Com.cs_len h) (by rw [St.cs_len stZ_ok]; decide)]
 unfold Instr.fill
 congr 2
 have e : com0.cs.length = c.cs.length := by rw [Com.cs_len com0_ok, Com.cs_len h]
 simp only [splice, St.cs, stZ, List.take_zero, List.nil_append, Nat.zero_add]
 rw [← e, List.drop_left]
theorem tl188 (P : Prop) (h : P := by
 go_wp2_with (first | (refine wpList_build_run built_none rfl rfl (by simp [Act.eval, Act.put]) ?_) | (refine wpList_build_run (built_st st0_ok.c) rfl rfl (by simp [Act.eval, Act.put]) ?_) | (refine wpList_store_blk (b := w.heap.size) (o := 0) (ds := st0.cs none 0 0) NW.out (by rw [St.cs_len st0_ok, St.cs_len stZ_ok]; decide) (St.cs_one _ _ _ _) rfl rfl rfl rfl (by rw [St.cs_len st0_ok]; exact st_size) ?_))
 intro w' hb hk
 rw [splice_all (by rw [St.cs_len st0_ok, St.cs_len stZ_ok])] at hb
 have HB := Lib.hid hb
 have HK := Lib.hid (KW.out.trans hk (T := None) (fun _ h => h) (fun b hb e => absurd e (by omega)))
 clear hb hk NW KW
 go_wp2
 refine bodyPost_ret (cell_res1 rfl _ HB.out Tryz.underlying58 rfl (by rw [St.cs_len st0_ok]; exact st_size) rfl) rfl ?_
 exact ⟨none, 0, 0, rfl, ChkV.nil _ _, HK.out⟩) : P := h
set_option maxRecDepth 100000 in
set_option maxHeartbeats 1600000 in
theorem lgblank_any (w : World) : Calls Tryz.prog 41 #[] w (GotSt w (fun _ => False) st0) := by
 have NW := Lib.hid (Blk.new w (stZ.cs none 0 0) 58)
 have KW : Hid (Keeps None w (w.alloc (.cells (stZ.cs none 0 0).toArray 58))) := (Keeps.refl None w).alloc _
 rw [← st_zero] at NW KW
 go_enter Tryz.func41, Tryz.ntmps41
 exact tl188 _
theorem St.cs_chg {s : St} (o : s.ok) (A : Option Addr) (n cap : Nat) (h : Bool) {k : Chk} (ok : k.ok) (A' : Option Addr) (n' cap' : Nat) : splice ((s.cs A n cap).set 68 (.bool h)) 69 (k.cs A' n' cap') = ({ s with has := h, k := k } : St).cs A' n' cap' := by
 have l1 := Com.cs_len o.c
 have l2 := Chk.cs_len o.k A n cap
 have l3 := Chk.cs_len ok A' n' cap'
 have e : (s.cs A n cap).set 68 (.bool h) = (s.c.cs ++ [.bool h]) ++ s.k.cs A n cap := by
  unfold St.cs
  rw [List.set_append_right _ _ (by omega), l1]
  simp
 rw [e]
 simp only [splice]
 rw [List.take_left' (by simp [l1]), List.drop_eq_nil_of_le (by simp [l1, l2, l3])]
 simp [St.cs]
theorem tl189 (P : Prop) (h : P := by
 have OS2 : Hid ((⟨C, false, chk0⟩ : St).ok) := ⟨CO.out, chk0_ok⟩
 have BS2 := Lib.hid (built_st CO.out)
 rw [hC] at EQ2
 clear hC M2
 go_wp2_with (first | (refine wpList_load_blk (b := w4.heap.size) (o := 0) (ds := C.cs) GB2.out (fun j v hv => by rw [Nat.zero_add]; exact hv) rfl rfl rfl Tryz.underlying41 rfl (by rw [Com.cs_len CO.out]; exact com_size) ?_) | (refine wpList_build_run BS2.out rfl rfl (by simp [Act.eval, Act.put]) ?_) | (refine wpList_store_blk (b := w.heap.size + 1 + 1) (o := 0) (ds := (⟨C, false, chk0⟩ : St).cs none 0 0) RB6.out (by rw [St.cs_len OS2.out, St.cs_len stZ_ok]; decide) (St.cs_one _ _ _ _) rfl rfl rfl rfl (by rw [St.cs_len OS2.out]; exact st_size) ?_))
 intro wz hbz hkz
 rw [splice_all (by rw [St.cs_len OS2.out, St.cs_len stZ_ok])] at hbz
 have HBZ := Lib.hid hbz
 have HKZ := Lib.hid (KB6.out.trans hkz (T := None) (fun _ h => h) (fun b hb e => absurd e (by omega)))
 clear hbz hkz c2 f2 s2
 go_wp2
 refine bodyPost_ret (cell_res1 rfl _ HBZ.out Tryz.underlying58 rfl (by rw [St.cs_len OS2.out]; exact st_size) rfl) rfl ?_
 exact ⟨none, 0, 0, by rw [EQ2.out]; rfl, by rw [EQ2.out]; exact ChkV.nil _ _, HKZ.out⟩) : P := h
theorem tl191 (P : Prop) (h : P := by
 clear hbz hkz
 go_wp2
 refine bodyPost_ret (cell_res1 rfl _ HBZ.out Tryz.underlying58 rfl (by rw [St.cs_len OS.out]; exact st_size) rfl) rfl ?_
 exact ⟨A, n, cap, by rw [EQ.out]; rfl, by rw [EQ.out]; exact HMZ.out.mono (fun b hb => .inl hb.1), HKZ.out⟩) : P := h
theorem tl190 (P : Prop) (h : P := by
 go_wp2_with (first | (refine wpList_load_blk (b := w.heap.size) (o := 0) (ds := St.cs s A n cap) SB5.out (fun j v hv => by rw [Nat.zero_add]; exact hv) rfl rfl rfl Tryz.underlying58 rfl (by rw [St.cs_len OS.out]; exact st_size) ?_) | (refine wpList_store_blk (b := w.heap.size + 1 + 1) (o := 0) (ds := St.cs s A n cap) RB5.out (by rw [St.cs_len OS.out, St.cs_len stZ_ok]; decide) (St.cs_one _ _ _ _) rfl rfl rfl rfl (by rw [St.cs_len OS.out]; exact st_size) ?_))
 intro wz hbz hkz
 rw [splice_all (by rw [St.cs_len OS.out, St.cs_len stZ_ok])] at hbz
 have HBZ := Lib.hid hbz
 have HKZ := Lib.hid (KB5.out.trans hkz (T := None) (fun _ h => h) (fun b hb e => absurd e (by omega)))
 have HMZ := Lib.hid ((HM.out.lt.later KB5.out).keeps hkz (fun b hb e => (by have h1 := hb.2; omega)))
 exact tl191 _) : P := h
set_option maxRecDepth 100000 in
set_option maxHeartbeats 6400000 in
theorem lgwith_any (s : St) (os : s.ok) (A : Option Addr) (n cap : Nat) (P : Nat → Prop) (rk rseq : Int) (rA : Option Addr) (rn rc : Nat) (body : List Int) (w : World) (hk : ChkV w P A n cap s.k.mid) (hb : Bs w rA rn rc body) :
    Calls Tryz.prog 43 #[s.v A n cap, .agg #[.int .i64 rk, .int .i64 rseq, .slice rA rn rc]] w (GotSt w P (stepS s ⟨rk, rseq, body⟩)) := by
 have OS := Lib.hid os
 have HB := Lib.hid hb
 have HM := Lib.hid hk
 obtain ⟨w3, hw3⟩ : ∃ x, ((w.alloc (.cells (s.cs A n cap).toArray 58)).alloc (.cells #[.int .i64 rk, .int .i64 rseq, .slice rA rn rc] 95)).alloc (.cells Tryz.zeroCells58 58) = x := ⟨_, rfl⟩
 have SB : Hid (Blk w3 w.heap.size (s.cs A n cap) 58) := by rw [← hw3]; exact ((Blk.new w (s.cs A n cap) 58).alloc _).alloc _
 have XB : Hid (Blk w3 (w.heap.size + 1) [.int .i64 rk, .int .i64 rseq, .slice rA rn rc] 95) := by
  rw [← hw3]
  have h := (Blk.new (w.alloc (.cells (s.cs A n cap).toArray 58)) [.int .i64 rk, .int .i64 rseq, .slice rA rn rc] 95).alloc (.cells Tryz.zeroCells58 58)
  rw [show (w.alloc (.cells (s.cs A n cap).toArray 58)).heap.size = w.heap.size + 1 by simp] at h
  exact h
 have RB : Hid (Blk w3 (w.heap.size + 1 + 1) (stZ.cs none 0 0) 58) := by
  rw [← hw3, st_zero]
  have h := Blk.new ((w.alloc (.cells (s.cs A n cap).toArray 58)).alloc (.cells #[.int .i64 rk, .int .i64 rseq, .slice rA rn rc] 95)) (stZ.cs none 0 0) 58
  rw [show ((w.alloc (.cells (s.cs A n cap).toArray 58)).alloc (.cells #[.int .i64 rk, .int .i64 rseq, .slice rA rn rc] 95)).heap.size = w.heap.size + 1 + 1 by simp] at h
  exact h
 have KB : Hid (Keeps None w w3) := by rw [← hw3]; exact (((Keeps.refl None w).alloc _).alloc _).alloc _
 have S3 : w3.heap.size = w.heap.size + 1 + 1 + 1 := by rw [← hw3]; simp
 unfold St.v
 obtain ⟨V, hV⟩ : ∃ V, (s.cs A n cap).toArray = V := ⟨_, rfl⟩
 rw [hV] at hw3 ⊢
 have HV := Lib.hid hV
 have x0 := XB.out.cellD 0 _ rfl
 have x2 := XB.out.cellD 2 _ rfl
 clear hV os hk hb
 by_cases q2 : rk = 2
 ·subst q2
  have GET := Lib.hid (fun w h => lggetc_any rA rn rc body w h)
  have GO : Hid ((getCom body).1.ok) := by
   show (getCom body).1.ok
   unfold getCom
   split
   ·rename_i h; exact comP_ok HB.out.byte h.1
   ·exact com0_ok
  have EQ : Hid (stepS s ⟨2, rseq, body⟩ = if (getCom body).2 = true then ⟨{ (getCom body).1 with fl := max (getCom body).1.fl s.c.fl }, false, chk0⟩ else s) := by show stepS _ _ = _; unfold stepS; simp
  obtain ⟨G, hG⟩ : ∃ G, (getCom body).1 = G := ⟨_, rfl⟩
  obtain ⟨ok, hok⟩ : ∃ b, (getCom body).2 = b := ⟨_, rfl⟩
  rw [hG, hok] at EQ GET
  rw [hG] at GO
  clear hG hok
  unfold Com.v at GET
  go_enter Tryz.func43, Tryz.ntmps43
  go_wp2_with fail
  refine (GET.out _ (HB.out.keeps KB.out (fun _ _ _ _ _ h => h))).mono ?_
  rintro e w4 ⟨rfl, k4⟩
  have NW := Lib.hid (Blk.new w4 com0.cs 41)
  have KW : Hid (Keeps None w4 (w4.alloc (.cells com0.cs.toArray 41))) := (Keeps.refl None w4).alloc _
  have K4 := Lib.hid k4
  have S4 : w.heap.size + 1 + 1 + 1 ≤ w4.heap.size := by have := k4.size; omega
  rw [← com_zero] at NW KW
  clear k4 x0 x2 GET
  go_wp2_with (refine wpList_store_blk (b := w4.heap.size) (o := 0) (ds := G.cs) NW.out (by rw [Com.cs_len GO.out]; decide) (Com.cs_one _) rfl rfl rfl rfl (by rw [Com.cs_len GO.out]; exact com_size) ?_)
  intro w5 b5 k5
  rw [splice_all (by rw [Com.cs_len GO.out]; rfl)] at b5
  have GB := Lib.hid b5
  have K45 := Lib.hid (KW.out.trans k5 (T := None) (fun _ h => h) (fun b hb e => absurd e (by omega)))
  have K35 := Lib.hid (K4.out.trans K45.out (T := None) (fun _ h => h) (fun _ _ h => h))
  have SB5 := Lib.hid (K35.out.blk SB.out (fun h => h))
  have RB5 := Lib.hid (K35.out.blk RB.out (fun h => h))
  have KB5 := Lib.hid (KB.out.trans K35.out (T := None) (fun _ h => h) (fun _ _ h => h))
  clear b5 k5 NW KW K4 K45
  have c2 := GB.out.cellD 2 _ rfl
  have f2 := GB.out.frozen 2
  have s2 := SB5.out.cellD 2 _ (St.cs_com OS.out A n cap 2 _ rfl)
  cases ok with
  | true =>
   have EQ2 : Hid (stepS s ⟨2, rseq, body⟩ = ⟨⟨G.slot, G.ver, max G.fl s.c.fl, G.len, G.me⟩, false, chk0⟩) := EQ.out
   by_cases hm : G.fl < s.c.fl
   ·skip
    have M2 : max G.fl s.c.fl = s.c.fl := by omega
    rw [M2] at EQ2
    obtain ⟨C, hC⟩ : ∃ C : Com, (⟨G.slot, G.ver, s.c.fl, G.len, G.me⟩ : Com) = C := ⟨_, rfl⟩
    have CO : Hid C.ok := by show C.ok; rw [← hC]; exact ⟨GO.out.v, (by have := GO.out.f; have := OS.out.c.f; show s.c.fl < _; omega), GO.out.ml, GO.out.mb⟩
    have GB2 : Hid (Blk (w5.setCell ⟨w4.heap.size, 2, none⟩ (.int .u64 ((s.c.fl : Nat) : Int))) w4.heap.size C.cs 41) := by rw [← hC]; exact GB.out.set 2 (.int .u64 ((s.c.fl : Nat) : Int))
    have RB6 := Lib.hid (RB5.out.setOther ⟨w4.heap.size, 2, none⟩ (.int .u64 ((s.c.fl : Nat) : Int)) (show ¬ w.heap.size + 1 + 1 = w4.heap.size by omega))
    have KB6 := Lib.hid (KB5.out.setCell ⟨w4.heap.size, 2, none⟩ (.int .u64 ((s.c.fl : Nat) : Int)) (fun h => absurd (show w4.heap.size < w.heap.size from h) (by omega)))
    exact tl189 _
   ·skip
    have M2 : max G.fl s.c.fl = G.fl := by omega
    rw [M2] at EQ2
    obtain ⟨C, hC⟩ : ∃ C : Com, (⟨G.slot, G.ver, G.fl, G.len, G.me⟩ : Com) = C := ⟨_, rfl⟩
    have CO : Hid C.ok := by show C.ok; rw [← hC]; exact ⟨GO.out.v, (by have := GO.out.f; have := OS.out.c.f; show G.fl < _; omega), GO.out.ml, GO.out.mb⟩
    have GB2 : Hid (Blk (w5.setCell ⟨w4.heap.size, 2, none⟩ (.int .u64 ((G.fl : Nat) : Int))) w4.heap.size C.cs 41) := by rw [← hC]; exact GB.out.set 2 (.int .u64 ((G.fl : Nat) : Int))
    have RB6 := Lib.hid (RB5.out.setOther ⟨w4.heap.size, 2, none⟩ (.int .u64 ((G.fl : Nat) : Int)) (show ¬ w.heap.size + 1 + 1 = w4.heap.size by omega))
    have KB6 := Lib.hid (KB5.out.setCell ⟨w4.heap.size, 2, none⟩ (.int .u64 ((G.fl : Nat) : Int)) (fun h => absurd (show w4.heap.size < w.heap.size from h) (by omega)))
    exact tl189 _
  | false =>
   exact tl190 _
 have d2 : (rk == 2) = false := by simpa using q2
 by_cases q3 : rk = 3
 ·subst q3
  have GET := Lib.hid (fun w h => lggetk_any rA rn rc body w h)
  have GO : Hid ((getChk body).1.ok) := by
   show (getChk body).1.ok
   unfold getChk
   split
   ·rename_i h; exact chkP_ok HB.out.byte h.1
   ·exact chk0_ok
  have EQ : Hid (stepS s ⟨3, rseq, body⟩ = if (getChk body).2 = true then { s with has := true, k := (getChk body).1 } else s) := by show stepS _ _ = _; unfold stepS; simp
  unfold GotChk at GET
  obtain ⟨G, hG⟩ : ∃ G, (getChk body).1 = G := ⟨_, rfl⟩
  obtain ⟨ok, hok⟩ : ∃ b, (getChk body).2 = b := ⟨_, rfl⟩
  rw [hG, hok] at EQ GET
  rw [hG] at GO
  clear hG hok
  unfold Chk.v at GET
  go_enter Tryz.func43, Tryz.ntmps43
  go_wp2_with fail
  refine (GET.out _ (HB.out.keeps KB.out (fun _ _ _ _ _ h => h))).mono ?_
  rintro e w4 ⟨gA, gn, gc, rfl, m4, k4⟩
  have M4 := Lib.hid m4
  have NW := Lib.hid (Blk.new w4 (chk0.cs none 0 0) 44)
  have KW : Hid (Keeps None w4 (w4.alloc (.cells (chk0.cs none 0 0).toArray 44))) := (Keeps.refl None w4).alloc _
  have K4 := Lib.hid k4
  have S4 : w.heap.size + 1 + 1 + 1 ≤ w4.heap.size := by have := k4.size; omega
  rw [← chk_zero] at NW KW
  clear m4 k4 x0 x2 GET
  go_wp2_with (refine wpList_store_blk (b := w4.heap.size) (o := 0) (ds := G.cs gA gn gc) NW.out (by rw [Chk.cs_len GO.out]; decide) (Chk.cs_one _ _ _ _) rfl rfl rfl rfl (by rw [Chk.cs_len GO.out]; exact chk_size) ?_)
  intro w5 b5 k5
  rw [splice_all (by rw [Chk.cs_len GO.out]; rfl)] at b5
  have GB := Lib.hid b5
  have K45 := Lib.hid (KW.out.trans k5 (T := None) (fun _ h => h) (fun b hb e => absurd e (by omega)))
  have K35 := Lib.hid (K4.out.trans K45.out (T := None) (fun _ h => h) (fun _ _ h => h))
  have SB5 := Lib.hid (K35.out.blk SB.out (fun h => h))
  have RB5 := Lib.hid (K35.out.blk RB.out (fun h => h))
  have KB5 := Lib.hid (KB.out.trans K35.out (T := None) (fun _ h => h) (fun _ _ h => h))
  have M5 := Lib.hid (M4.out.lt.keeps K45.out (fun _ _ h => h))
  clear b5 k5 NW KW K4 K45 M4
  cases ok with
  | true =>
   have OS2 : Hid (({ s with has := true, k := G } : St).ok) := ⟨OS.out.c, GO.out⟩
   go_wp2
   have f68 := SB5.out.drew.frozen 68
   have x68 := SB5.out.drew.cellD 68 _ (St.cs_has OS.out A n cap)
   have LDC : Hid (∀ w', Keeps (fun k => k = w.heap.size) w5 w' → (Instr.loadAt 44 (.pointer (some ⟨w4.heap.size, 0, none⟩))).run Tryz.prog w' = .ok (.agg (G.cs gA gn gc).toArray) w') := fun w' k =>
    run_loadAt_mid w' w4.heap.size 0 44 (G.cs gA gn gc) _ (blk_range (k.blk GB.out (by omega)) (fun j v hv => by rw [Nat.zero_add]; exact hv)) Tryz.underlying44 rfl (by rw [Chk.cs_len GO.out]; exact chk_size)
   have K5r := Lib.hid (Keeps.refl (fun k => k = w.heap.size) w5)
   have SB6 := Lib.hid (SB5.out.set 68 (.bool true)).drew
   have K56 := Lib.hid (K5r.out.setCell ⟨w.heap.size, 68, none⟩ (.bool true) (fun _ => rfl)).drew
   obtain ⟨mS, mh⟩ : ∃ S : World → Prop, ∀ w', S w' ↔ (((Instr.loadAt 44 (.pointer (some ⟨w4.heap.size, 0, none⟩))).run Tryz.prog w' = .ok (.agg (G.cs gA gn gc).toArray) w')) := ⟨_, fun _ => Iff.rfl⟩
   have mk0 : ∀ x : Memb mS, (Instr.loadAt 44 (.pointer (some ⟨w4.heap.size, 0, none⟩))).run Tryz.prog x.at_ = .ok (.agg (G.cs gA gn gc).toArray) x.at_ := fun x => ((mh _).1 x.is)
   have mn : Nonempty (Memb mS) := ⟨⟨(w5).drew, (mh _).2 (LDC.out _ K5r.out.drew)⟩⟩
   have mH := Lib.hid mh
   clear mh
   refine wp_region_mix [2, 4] (InS mS) (by kernel_rfl) (by kernel_rfl) (InS.mk ((mH.out _).2 (LDC.out _ K5r.out.drew))) ?_
   refine wpMix_seg 2 (by kernel_rfl) (by decide) ?_
   simp only [tds]
   repeat (first | go_big_quiet_step (fail) | (go_big_quiet_want; first | refine quiet_load mk0 rfl rfl rfl aput ?_; go_big_quiet_on))
   refine wpQuiet_nil ?_
   refine wpMix_eff (by kernel_rfl) ?_
   go_wp2
   refine MixK.on (InS.mk ((mH.out _).2 (LDC.out _ K56.out))) ?_
   refine wpMix_seg 1 (by kernel_rfl) (by decide) ?_
   simp only [tds]
   repeat (first | go_big_quiet_step (fail) | (go_big_quiet_want; first | refine quiet_load mk0 rfl rfl rfl aput ?_; go_big_quiet_on))
   refine wpQuiet_nil ?_
   refine wpMix_eff (by kernel_rfl) ?_
   go_wp2_with (refine wpList_store_blk (b := w.heap.size) (o := 69) (ds := G.cs gA gn gc) SB6.out (by rw [List.length_set, St.cs_len OS.out, Chk.cs_len GO.out]; decide) (Chk.cs_one _ _ _ _) rfl rfl rfl rfl (by rw [Chk.cs_len GO.out]; exact chk_size) ?_)
   intro w6 b6 k6
   rw [St.cs_chg OS.out A n cap true GO.out gA gn gc] at b6
   have SB7 := Lib.hid b6
   have K57 := Lib.hid (K56.out.trans k6 (fun _ h => h) (fun _ _ h => h))
   clear b6 k6
   go_wp2
   refine MixK.on (InS.mk ((mH.out _).2 (LDC.out _ K57.out))) ?_
   refine wpMix_nil ?_
   clear mk0 mn mH
   have RB7 := Lib.hid (K57.out.blk RB5.out (by omega))
   have KB7 := Lib.hid (KB5.out.trans K57.out (T := None) (fun _ h => h) (fun b hb e => absurd e (by omega)))
   have M7 := Lib.hid (M5.out.keeps K57.out (fun b hb e => by have h1 := hb.1; omega))
   clear SB6 K56 f68 x68 LDC
   go_wp2_with (first | (refine wpList_load_blk (b := w.heap.size) (o := 0) (ds := St.cs ({ s with has := true, k := G } : St) gA gn gc) SB7.out (fun j v hv => by rw [Nat.zero_add]; exact hv) rfl rfl rfl Tryz.underlying58 rfl (by rw [St.cs_len OS2.out]; exact st_size) ?_) | (refine wpList_store_blk (b := w.heap.size + 1 + 1) (o := 0) (ds := St.cs ({ s with has := true, k := G } : St) gA gn gc) RB7.out (by rw [St.cs_len OS2.out, St.cs_len stZ_ok]; decide) (St.cs_one _ _ _ _) rfl rfl rfl rfl (by rw [St.cs_len OS2.out]; exact st_size) ?_))
   intro wz hbz hkz
   rw [splice_all (by rw [St.cs_len OS2.out, St.cs_len stZ_ok])] at hbz
   have HBZ := Lib.hid hbz
   have HKZ := Lib.hid (KB7.out.trans hkz (T := None) (fun _ h => h) (fun b hb e => absurd e (by omega)))
   have HMZ := Lib.hid (M7.out.keeps hkz (fun b hb e => (by have h1 := hb.1; omega)))
   clear hbz hkz
   go_wp2
   refine bodyPost_ret (cell_res1 rfl _ HBZ.out Tryz.underlying58 rfl (by rw [St.cs_len OS2.out]; exact st_size) rfl) rfl ?_
   exact ⟨gA, gn, gc, by rw [EQ.out]; rfl, by rw [EQ.out]; exact HMZ.out.mono (fun b hb => .inr (by have h1 := hb.1; omega)), HKZ.out⟩
  | false =>
   exact tl190 _
 have d3 : (rk == 3) = false := by simpa using q3
 by_cases q4 : rk = 4
 ·subst q4
  have EQ : Hid (stepS s ⟨4, rseq, body⟩ = { s with has := false, k := chk0 }) := by show stepS _ _ = _; unfold stepS; simp
  have OS2 : Hid (({ s with has := false, k := chk0 } : St).ok) := ⟨OS.out.c, chk0_ok⟩
  have x68 := SB.out.cellD 68 _ (St.cs_has OS.out A n cap)
  have f68 := SB.out.frozen 68
  have SB4 := Lib.hid (SB.out.set 68 (.bool false))
  go_enter Tryz.func43, Tryz.ntmps43
  go_wp2_with (refine wpList_store_blk (b := w.heap.size) (o := 69) (ds := chk0.cs none 0 0) SB4.out (by rw [List.length_set, St.cs_len OS.out]; decide) (Chk.cs_one _ _ _ _) rfl rfl rfl rfl chk_size ?_)
  intro w5 b5 k5
  rw [St.cs_chg OS.out A n cap false chk0_ok none 0 0] at b5
  have SB5 := Lib.hid b5
  have K35 : Hid (Keeps (fun k => k = w.heap.size) w3 w5) := ((Keeps.refl (fun k => k = w.heap.size) w3).setCell ⟨w.heap.size, 68, none⟩ (.bool false) (fun _ => rfl)).trans k5 (fun _ h => h) (fun _ _ h => h)
  have RB5 := Lib.hid (K35.out.blk RB.out (by omega))
  have KB5 := Lib.hid (KB.out.trans K35.out (T := None) (fun _ h => h) (fun b hb e => absurd e (by omega)))
  clear b5 k5 SB4 x0 x2 x68 f68
  go_wp2_with (first | (refine wpList_load_blk (b := w.heap.size) (o := 0) (ds := St.cs ({ s with has := false, k := chk0 } : St) none 0 0) SB5.out (fun j v hv => by rw [Nat.zero_add]; exact hv) rfl rfl rfl Tryz.underlying58 rfl (by rw [St.cs_len OS2.out]; exact st_size) ?_) | (refine wpList_store_blk (b := w.heap.size + 1 + 1) (o := 0) (ds := St.cs ({ s with has := false, k := chk0 } : St) none 0 0) RB5.out (by rw [St.cs_len OS2.out, St.cs_len stZ_ok]; decide) (St.cs_one _ _ _ _) rfl rfl rfl rfl (by rw [St.cs_len OS2.out]; exact st_size) ?_))
  intro wz hbz hkz
  rw [splice_all (by rw [St.cs_len OS2.out, St.cs_len stZ_ok])] at hbz
  have HBZ := Lib.hid hbz
  have HKZ := Lib.hid (KB5.out.trans hkz (T := None) (fun _ h => h) (fun b hb e => absurd e (by omega)))
  have HMZ := Lib.hid ((ChkV.nil w5 (fun b => b < w.heap.size)).keeps hkz (fun b hb e => (by omega)))
  clear hbz hkz
  go_wp2
  refine bodyPost_ret (cell_res1 rfl _ HBZ.out Tryz.underlying58 rfl (by rw [St.cs_len OS2.out]; exact st_size) rfl) rfl ?_
  exact ⟨none, 0, 0, by rw [EQ.out]; rfl, by rw [EQ.out]; exact ChkV.nil _ _, HKZ.out⟩
 have d4 : (rk == 4) = false := by simpa using q4
 have EQ : Hid (stepS s ⟨rk, rseq, body⟩ = s) := by show stepS _ _ = _; unfold stepS; simp [q2, q3, q4]
 go_enter Tryz.func43, Tryz.ntmps43
 go_wp2_with (first | (refine wpList_load_blk (b := w.heap.size) (o := 0) (ds := St.cs s A n cap) SB.out (fun j v hv => by rw [Nat.zero_add]; exact hv) rfl rfl rfl Tryz.underlying58 rfl (by rw [St.cs_len OS.out]; exact st_size) ?_) | (refine wpList_store_blk (b := w.heap.size + 1 + 1) (o := 0) (ds := St.cs s A n cap) RB.out (by rw [St.cs_len OS.out, St.cs_len stZ_ok]; decide) (St.cs_one _ _ _ _) rfl rfl rfl rfl (by rw [St.cs_len OS.out]; exact st_size) ?_))
 intro wz hbz hkz
 rw [splice_all (by rw [St.cs_len OS.out, St.cs_len stZ_ok])] at hbz
 have HBZ := Lib.hid hbz
 have HKZ := Lib.hid (KB.out.trans hkz (T := None) (fun _ h => h) (fun b hb e => absurd e (by omega)))
 have HMZ := Lib.hid ((HM.out.lt.later KB.out).keeps hkz (fun b hb e => (by have h1 := hb.2; omega)))
 exact tl191 _
open Go.RowKit
theorem stepS_ok {s : St} (o : s.ok) {r : Rec} (hb : Byt r.b) : (stepS s r).ok := by
 unfold stepS
 split
 ·split
  ·rename_i h
   obtain ⟨-, a, -, -⟩ := getCom_ok hb h
   exact ⟨⟨a.v, (by have := a.f; have := o.c.f; show max _ _ < _; omega), a.ml, a.mb⟩, chk0_ok⟩
  ·exact o
 ·split
  ·split
   ·rename_i h
    obtain ⟨-, a, -, -⟩ := getChk_ok hb h
    exact ⟨o.c, a⟩
   ·exact o
  ·split
   ·exact ⟨o.c, chk0_ok⟩
   ·exact o
theorem tl192 (P : Prop) (h : P := by
 obtain rfl : i = n := by omega
 have EQ : Hid (foldS (rs.map RV.r) = s) := by
  show _ = _
  rw [← HF.out, List.drop_eq_nil_of_le (by rw [List.length_map, HL.out]; exact Nat.le_refl _)]
  rfl
 clear HF
 go_wp2_with (first | (refine wpList_load_blk (b := sb) (o := 0) (ds := s.cs A' n' c') SB.out (fun j v hv => by rw [Nat.zero_add]; exact hv) rfl rfl rfl Tryz.underlying58 rfl (by rw [St.cs_len OS.out]; exact st_size) ?_) | (refine wpList_store_blk (b := w.heap.size) (o := 0) (ds := s.cs A' n' c') RB.out (by rw [St.cs_len OS.out, St.cs_len stZ_ok]; decide) (St.cs_one _ _ _ _) rfl rfl rfl rfl (by rw [St.cs_len OS.out]; exact st_size) ?_))
 intro wz hbz hkz
 rw [splice_all (by rw [St.cs_len OS.out, St.cs_len stZ_ok])] at hbz
 have HBZ := Lib.hid hbz
 have HKZ := Lib.hid (HK.out.trans hkz (T := None) (fun _ h => h) (fun b hb e => absurd e (by omega)))
 have HMZ := Lib.hid (HM.out.keeps hkz (fun b hb e => by have h1 := hb.1; omega))
 clear hbz hkz
 go_wp2
 refine bodyPost_ret (cell_res1 rfl _ HBZ.out Tryz.underlying58 rfl (by rw [St.cs_len OS.out]; exact st_size) rfl) rfl ?_
 exact ⟨A', n', c', by rw [EQ.out]; rfl, by rw [EQ.out]; exact HMZ.out.mono (fun b hb => .inr (by have h1 := hb.1; omega)), HKZ.out⟩) : P := h
set_option maxRecDepth 100000 in
set_option maxHeartbeats 3200000 in
theorem lgfold_any (A : Option Addr) (n cap : Nat) (rs : List RV) (P : Nat → Prop) (w : World) (h : Rws w A n cap rs) (hb : Bds w P rs) :
    Calls Tryz.prog 25 #[.slice A n cap] w (GotSt w (fun _ => False) (foldS (rs.map RV.r))) := by
 have H := Lib.hid h
 have HB := Lib.hid hb
 have HL := Lib.hid h.len
 have hle := h.le
 have hmx := h.max
 have RB0 := Lib.hid (Blk.new w (stZ.cs none 0 0) 58)
 have KB0 : Hid (Keeps None w (w.alloc (.cells (stZ.cs none 0 0).toArray 58))) := (Keeps.refl None w).alloc _
 rw [← st_zero] at RB0 KB0
 have S0 : (w.alloc (.cells Tryz.zeroCells58 58)).heap.size = w.heap.size + 1 := by simp
 clear h hb
 go_enter Tryz.func25, Tryz.ntmps25
 go_wp2_with fail
 refine (lgblank_any _).mono ?_
 rintro e w1 ⟨A1, n1, c1, rfl, m1, k1⟩
 have RB1 := Lib.hid (k1.blk RB0.out (fun h => h))
 have KB1 := Lib.hid (KB0.out.trans k1 (T := None) (fun _ h => h) (fun _ _ h => h))
 have M1 : Hid (ChkV w1 (fun b => w.heap.size < b ∧ b < w1.heap.size) A1 n1 c1 st0.k.mid) := m1.lt.mono (fun b hb => ⟨by rcases hb.1 with h | h; exact absurd h (fun h => h); omega, hb.2⟩)
 have S1 : w.heap.size < w1.heap.size := RB1.out.lt
 have NB1 := Lib.hid (Blk.new w1 (stZ.cs none 0 0) 58)
 have KN1 : Hid (Keeps None w1 (w1.alloc (.cells (stZ.cs none 0 0).toArray 58))) := (Keeps.refl None w1).alloc _
 rw [← st_zero] at NB1 KN1
 unfold St.v
 clear m1 k1 RB0 KB0
 go_wp2_with (refine wpList_store_blk (b := w1.heap.size) (o := 0) (ds := st0.cs A1 n1 c1) NB1.out (by rw [St.cs_len st0_ok, St.cs_len stZ_ok]; decide) (St.cs_one _ _ _ _) rfl rfl rfl rfl (by rw [St.cs_len st0_ok]; exact st_size) ?_)
 intro w2 b2 k2
 rw [splice_all (by rw [St.cs_len st0_ok, St.cs_len stZ_ok])] at b2
 have SB2 := Lib.hid b2
 have K12 := Lib.hid (KN1.out.trans k2 (T := None) (fun _ h => h) (fun b hb e => absurd e (by omega)))
 have KB2 := Lib.hid (KB1.out.trans K12.out (T := None) (fun _ h => h) (fun _ _ h => h))
 have RB2 := Lib.hid (K12.out.blk RB1.out (fun h => h))
 have M2 : Hid (ChkV w2 (fun b => w.heap.size < b ∧ ¬ b = w1.heap.size) A1 n1 c1 st0.k.mid) := (M1.out.mono (fun b hb => ⟨hb.1, Nat.ne_of_lt hb.2⟩)).later K12.out
 obtain ⟨sb, hsb⟩ : ∃ x, w1.heap.size = x := ⟨_, rfl⟩
 rw [hsb] at SB2 M2 S1 ⊢
 clear b2 k2 NB1 KN1 K12 RB1 KB1 M1 hsb S0
 go_wp2
 go_loopw [9] (fun iv wr => ∃ (i : Nat) (s : St) (A' : Option Addr) (n' c' : Nat), i ≤ n ∧ iv = .int .i64 (i : Int) ∧ s.ok ∧ (((rs.map RV.r).drop i).foldl stepS s = foldS (rs.map RV.r)) ∧ Blk wr sb (s.cs A' n' c') 58 ∧ ChkV wr (fun b => w.heap.size < b ∧ ¬ b = sb) A' n' c' s.k.mid ∧ Blk wr w.heap.size (stZ.cs none 0 0) 58 ∧ Keeps None w wr) (fun iv _ => n - (intOf iv).toNat)
 case atStart => exact ⟨0, st0, A1, n1, c1, Nat.zero_le _, rfl, st0_ok, rfl, SB2.out, M2.out, RB2.out, KB2.out⟩
 case round =>
  obtain ⟨i, s, A', n', c', hi, rfl, os, hf, hsbk, hm, hr, hk⟩ := hrel
  obtain ⟨wv, rfl⟩ : ∃ x, x = wr := ⟨_, rfl⟩
  have OS := Lib.hid os
  have HF := Lib.hid hf
  have SB := Lib.hid hsbk
  have HM := Lib.hid hm
  have RB := Lib.hid hr
  have HK := Lib.hid hk
  have SZ : sb < wv.heap.size := hsbk.lt
  clear os hf hsbk hm hr hk SB2 M2 RB2 KB2
  by_cases hlt : i < n
  ·have hir : i < rs.length := by rw [HL.out]; exact hlt
   obtain ⟨r, hr0⟩ : ∃ r, rs[i] = r := ⟨_, rfl⟩
   have hget : rs[i]? = some r := by rw [List.getElem?_eq_getElem hir, hr0]
   obtain ⟨gb, off, rfl, hgb, hc⟩ := H.out.at_ (by omega)
   obtain ⟨x0, x1, x2⟩ := hc i r hget
   rw [← HK.out.cell hgb (fun h => h)] at x0 x1 x2
   have BR := Lib.hid ((HB.out.bs r (List.mem_of_getElem? hget)).keeps HK.out (fun _ _ _ _ _ h => h))
   have hdr : (rs.map RV.r).drop i = r.r :: (rs.map RV.r).drop (i + 1) := by
    rw [List.drop_eq_getElem_cons (by rw [List.length_map]; exact hir), List.getElem_map, hr0]
   have HF2 : Hid (((rs.map RV.r).drop (i + 1)).foldl stepS (stepS s ⟨r.k, r.s, r.b⟩) = foldS (rs.map RV.r)) := by
    show _ = _
    rw [← HF.out, hdr]
    rfl
   have ON : Hid ((stepS s ⟨r.k, r.s, r.b⟩).ok) := stepS_ok OS.out BR.out.byte
   obtain ⟨rk, rsq, rA, rc, rb⟩ := r
   unfold RV.v at x2
   dsimp only at x0 x1 x2 BR HF2 ON
   obtain ⟨rn, hrn⟩ : ∃ z, rb.length = z := ⟨_, rfl⟩
   rw [hrn] at x2 BR
   clear hget hc hr0 hir hdr HF hrn
   obtain ⟨w3, hw3⟩ : ∃ x, wv.alloc (.cells #[.int .i64 rk, .int .i64 rsq, .slice rA rn rc] 95) = x := ⟨_, rfl⟩
   have XB3 : Hid (Blk w3 wv.heap.size [.int .i64 rk, .int .i64 rsq, .slice rA rn rc] 95) := by rw [← hw3]; exact Blk.new wv [.int .i64 rk, .int .i64 rsq, .slice rA rn rc] 95
   have K3 : Hid (Keeps None wv w3) := by rw [← hw3]; exact (Keeps.refl None wv).alloc _
   have SB3 := Lib.hid (K3.out.blk SB.out (fun h => h))
   have BR3 := Lib.hid (BR.out.keeps K3.out (fun _ _ _ _ _ h => h))
   have HM3 := Lib.hid (HM.out.later K3.out)
   have HK3 := Lib.hid (HK.out.trans K3.out (T := None) (fun _ h => h) (fun _ _ h => h))
   have RB3 := Lib.hid (K3.out.blk RB.out (fun h => h))
   have y0 := XB3.out.cellD 0 _ rfl
   have y1 := XB3.out.cellD 1 _ rfl
   have y2 := XB3.out.cellD 2 _ rfl
   have WITH := Lib.hid (lgwith_any s OS.out A' n' c' (fun b => w.heap.size < b ∧ ¬ b = sb) rk rsq rA rn rc rb w3 HM3.out BR3.out)
   unfold St.v at WITH
   clear BR SB HM RB HK BR3
   go_wp2_with (refine wpList_load_blk (b := sb) (o := 0) (ds := s.cs A' n' c') SB3.out (fun j v hv => by rw [Nat.zero_add]; exact hv) rfl rfl rfl Tryz.underlying58 rfl (by rw [St.cs_len OS.out]; exact st_size) ?_)
   go_wp2_with fail
   refine WITH.out.mono ?_
   rintro e w4 ⟨A4, n4, c4, rfl, m4, k4⟩
   have SB4 := Lib.hid (k4.blk SB3.out (fun h => h))
   have M4 : Hid (ChkV w4 (fun b => w.heap.size < b ∧ ¬ b = sb) A4 n4 c4 (stepS s ⟨rk, rsq, rb⟩).k.mid) := m4.mono (fun b hb => by
    have h1 := K3.out.size
    have h2 := HK3.out.size
    rcases hb with h | h
    ·exact h
    ·exact ⟨by omega, by omega⟩)
   have RB4 := Lib.hid (k4.blk RB3.out (fun h => h))
   have HK4 := Lib.hid (HK3.out.trans k4 (T := None) (fun _ h => h) (fun _ _ h => h))
   clear m4 k4 y0 y1 y2 XB3 SB3 HM3 RB3 HK3 WITH
   unfold St.v
   go_wp2_with (refine wpList_store_blk (b := sb) (o := 0) (ds := (stepS s ⟨rk, rsq, rb⟩).cs A4 n4 c4) SB4.out (by rw [St.cs_len ON.out, St.cs_len OS.out]; decide) (St.cs_one _ _ _ _) rfl rfl rfl rfl (by rw [St.cs_len ON.out]; exact st_size) ?_)
   intro w5 b5 k5
   rw [splice_all (by rw [St.cs_len ON.out, St.cs_len OS.out])] at b5
   have SB5 := Lib.hid b5
   have M5 := Lib.hid (M4.out.keeps k5 (fun b hb e => hb.2 e))
   have RB5 := Lib.hid (k5.blk RB4.out (by omega))
   have HK5 := Lib.hid (HK4.out.trans k5 (T := None) (fun _ h => h) (fun b hb e => absurd e (by omega)))
   clear b5 k5 SB4 M4 RB4 HK4
   go_wp2
   go_roundw
   case rel => exact ⟨i + 1, _, A4, n4, c4, by omega, by go_num, ON.out, HF2.out, SB5.out, M5.out, RB5.out, HK5.out⟩
   case measure => simp [intOf]; omega
  ·exact tl192 _
open Go.RowKit
theorem Copied.later {w a a' : World} {v : Value} {rs : List RV} (h : Copied w a v rs) (k : Keeps None a a') : Copied w a' v rs := ⟨h.o.later k, h.bd.later k, h.k.trans k (fun _ h => h) (fun _ _ h => h)⟩
theorem Copied.none (w : World) : Copied w w (.slice none 0 0) [] := ⟨OwnR.nil _ _, Bds.nil _ _, Keeps.refl _ _⟩
theorem Copied.push {w a w' : World} {v v' : Value} {rs : List RV} {r : RV} (h : Copied w a v rs) (hr : Bs a r.A r.b.length r.c r.b) (hp : ∀ b, r.at_ b → (w.heap.size ≤ b ∧ ¬ v.ownBlock = some b) ∧ b < a.heap.size)
    (o : OwnR w' w.heap.size v' (rs ++ [r])) (k : Keeps (fun k => v.ownBlock = some k) a w') (d : v'.ownBlock = v.ownBlock ∨ v'.ownBlock = some a.heap.size) : Copied w w' v' (rs ++ [r]) := by
 refine ⟨o, ⟨fun x hx => ?_, fun x hx b hb => ?_⟩, h.k.trans k (fun _ h => absurd h (fun h => h)) (fun b hb e => absurd (h.o.block e).1 (by omega))⟩
 ·rcases List.mem_append.1 hx with h1 | h1
  ·exact (h.bd.keeps k (fun b hb _ e => hb.2 e)).bs x h1
  ·rw [List.mem_singleton.1 h1]
   exact hr.keeps k (fun b off hn _ e hs => (hp b ⟨off, by rw [hr.len]; exact hn, e⟩).1.2 hs)
 ·have hq : (w.heap.size ≤ b ∧ ¬ v.ownBlock = some b) ∧ b < a.heap.size := by
   rcases List.mem_append.1 hx with h1 | h1
   ·exact h.bd.p x h1 b hb
   ·rw [List.mem_singleton.1 h1] at hb; exact hp b hb
  have := k.size
  refine ⟨⟨hq.1.1, fun e => ?_⟩, by omega⟩
  rcases d with d | d
  ·exact hq.1.2 (d.symm.trans e)
  ·rw [d] at e
   have := Option.some.inj e
   omega
theorem own_at {w : World} {B : Nat} {A : Option Addr} {n c : Nat} {zs : List Int} {k s : Int} (h : Own w B (.slice A n c) zs) (hn : zs.length = n) : ∀ b, (⟨k, s, A, c, zs⟩ : RV).at_ b → B ≤ b ∧ b < w.heap.size := by
 rintro b ⟨off, h0, e⟩
 subst hn
 exact (chkV_own h).p b off h0 e
theorem tl196 (P : Prop) (h : P := by
 first | rw [if_neg (by simp), List.append_nil] at RS | rw [if_neg (by simp)] at RS
 go_wp2
 go_ret
 exact ⟨_, _, rfl, CP5.out, RS.out.symm⟩) : P := h
theorem tl198 (P : Prop) (h : P := by
 have d2 : decide (0 < (kl : Int)) = false := decide_eq_false (by omega)
 first | rw [if_neg (by simp; omega), List.append_nil] at RS | rw [if_neg (by simp; omega)] at RS
 go_wp2
 go_ret
 exact ⟨_, _, rfl, CP5.out, RS.out.symm⟩) : P := h
theorem tl197 (P : Prop) (h : P := by
 by_cases g2 : 0 < kl
 case neg =>
  exact tl198 _
 have d2 : decide (0 < (kl : Int)) = true := decide_eq_true (by omega)
 rw [if_pos ⟨rfl, g2⟩] at RS
 go_wp2_with (at_builtin; refine Hid.out ?_)
 refine Lib.hid ?_
 refine wpList_append_recs (ns := [⟨3, 0, A5, c5, chkL s.k⟩]) (CP5.out.later ((Keeps.refl None _).alloc _)).o (Rws.one _ (by
  show Blk _ _ [.int .i64 3, .int .i64 0, .slice _ _ _] _
  rw [hkl.out]
  exact Blk.new _ [.int .i64 3, .int .i64 0, .slice _ _ _] 95)) (by simp) (Nat.le_trans CP5.out.k.size (by simp)) (by rfl) (by rfl) (by rfl) (by rfl) (by rfl) ?_
 intro v6 w6 o6 k6 d6
 have CP6 := Lib.hid ((CP5.out.later ((Keeps.refl None w5).alloc (.cells #[.int .i64 3, .int .i64 0, .slice A5 kl c5] 95))).push (r := ⟨3, 0, A5, c5, chkL s.k⟩) (by show Bs _ A5 (chkL s.k).length c5 _; rw [hkl.out]; exact B5.out.keeps ((Keeps.refl None w5).alloc _) (fun _ _ _ _ _ h => h)) (fun b hb => by
  have h1 := own_at (O5.out.alloc (.cells #[.int .i64 3, .int .i64 0, .slice A5 kl c5] 95)) hkl.out b hb
  exact ⟨⟨by omega, fun e => by have := OWN5.out b e; omega⟩, h1.2⟩) o6 k6 d6)
 clear o6 k6 d6 CP5 B5 O5 x68
 go_wp2
 go_ret
 exact ⟨_, _, rfl, CP6.out, by rw [RS.out, List.map_append]; rfl⟩) : P := h
theorem tl195 (P : Prop) (h : P := by
 have SZ5 : w.heap.size ≤ wq.heap.size := CPq.out.k.size
 clear o5 b5 k5 SBq HMq CPq
 obtain ⟨hs, HHS⟩ : ∃ b, Hid (s.has = b) := ⟨_, rfl⟩
 rw [HHS.out] at x68 RS
 cases hs with
 | false =>
  exact tl196 _
 | true =>
  exact tl197 _) : P := h
set_option maxRecDepth 100000 in
theorem tl194 (P : Prop) (h : P := by
 have d1 : decide (0 < (cl : Int)) = true := decide_eq_true (by omega)
 rw [if_pos g1] at RS
 go_wp2_with (at_builtin; refine Hid.out ?_)
 refine Lib.hid ?_
 refine wpList_append_recs (ns := [⟨2, 0, A1, c1, comL s.c⟩]) (CP0.out.later ((Keeps.refl None _).alloc _)).o (Rws.one _ (by
  show Blk _ _ [.int .i64 2, .int .i64 0, .slice _ _ _] _
  rw [hcl.out]
  exact Blk.new _ [.int .i64 2, .int .i64 0, .slice _ _ _] 95)) (by simp) (Nat.le_trans CP0.out.k.size (by simp)) (by rfl) (by rfl) (by rfl) (by rfl) (by rfl) ?_
 intro v2 w2 o2 k2 d2
 have CP2 := Lib.hid ((CP0.out.later ((Keeps.refl None w1).alloc (.cells #[.int .i64 2, .int .i64 0, .slice A1 cl c1] 95))).push (r := ⟨2, 0, A1, c1, comL s.c⟩) (by show Bs _ A1 (comL s.c).length c1 _; rw [hcl.out]; exact B1.out.keeps ((Keeps.refl None w1).alloc _) (fun _ _ _ _ _ h => h)) (fun b hb => by
  have h1 := own_at (O1.out.alloc (.cells #[.int .i64 2, .int .i64 0, .slice A1 cl c1] 95)) hcl.out b hb
  exact ⟨⟨by omega, fun e => by cases e⟩, h1.2⟩) o2 k2 d2)
 have KK : Hid (Keeps None w1 w2) := ((Keeps.refl None w1).alloc _).trans k2 (fun _ h => h) (fun b hb e => by cases e)
 obtain ⟨wq, rfl⟩ : ∃ x, x = w2 := ⟨_, rfl⟩
 have SBq := Lib.hid (KK.out.blk SB1.out (fun h => h))
 have HMq := Lib.hid ((HM.out.later KB1.out).later KK.out)
 obtain ⟨A2, c2, rfl, r2, -⟩ := o2.shape
 have q3 := r2.le
 have q4 := r2.max
 have CPq := CP2
 clear o2 k2 d2 r2 CP2 CP0 SB1 KB1 KK O1 B1 d1
 go_wp2_with (refine wpList_load_blk (b := w.heap.size) (o := 69) (ds := s.k.cs A n cap) SBq.out (fun j v hv => St.cs_chk OS.out A n cap j v hv) rfl rfl rfl Tryz.underlying44 rfl (by rw [Chk.cs_len OS.out.k]; exact chk_size) ?_)
 go_wp2_with fail
 refine (PK.out _ HMq.out.b).mono ?_
 rintro e w5 ⟨v5, rfl, o5, k5⟩
 obtain ⟨A5, c5, rfl, b5, -⟩ := o5.shape
 have q5 := b5.le
 have q6 := b5.max
 obtain ⟨kl, hkl⟩ : ∃ x, Hid ((chkL s.k).length = x) := ⟨_, rfl⟩
 rw [hkl.out] at o5 q5 b5 ⊢
 rw [hkl.out] at RS
 have O5 := Lib.hid o5
 have B5 := Lib.hid b5
 have x68 := (k5.blk SBq.out (fun h => h)).cellD 68 _ (St.cs_has OS.out A n cap)
 have CP5 := Lib.hid (CPq.out.later k5)
 have OWN5 : Hid (∀ b, (Value.slice A2 1 c2).ownBlock = some b → b < wq.heap.size) := fun b e => (CPq.out.o.block e).2
 exact tl195 _) : P := h
theorem tl199 (P : Prop) (h : P := by
 have d1 : decide (0 < (cl : Int)) = false := decide_eq_false (by omega)
 rw [if_neg g1, List.nil_append] at RS
 have HMq := Lib.hid (HM.out.later KB1.out)
 have SBq := SB1
 have CPq := CP0
 obtain ⟨wq, rfl⟩ : ∃ x, x = w1 := ⟨_, rfl⟩
 clear CP0 SB1 KB1 O1 B1
 go_wp2_with (refine wpList_load_blk (b := w.heap.size) (o := 69) (ds := s.k.cs A n cap) SBq.out (fun j v hv => St.cs_chk OS.out A n cap j v hv) rfl rfl rfl Tryz.underlying44 rfl (by rw [Chk.cs_len OS.out.k]; exact chk_size) ?_)
 go_wp2_with fail
 refine (PK.out _ HMq.out.b).mono ?_
 rintro e w5 ⟨v5, rfl, o5, k5⟩
 obtain ⟨A5, c5, rfl, b5, -⟩ := o5.shape
 have q5 := b5.le
 have q6 := b5.max
 obtain ⟨kl, hkl⟩ : ∃ x, Hid ((chkL s.k).length = x) := ⟨_, rfl⟩
 rw [hkl.out] at o5 q5 b5 ⊢
 rw [hkl.out] at RS
 have O5 := Lib.hid o5
 have B5 := Lib.hid b5
 have x68 := (k5.blk SBq.out (fun h => h)).cellD 68 _ (St.cs_has OS.out A n cap)
 have CP5 := Lib.hid (CPq.out.later k5)
 have OWN5 : Hid (∀ b, (Value.slice none 0 0).ownBlock = some b → b < wq.heap.size) := fun b e => (CPq.out.o.block e).2
 exact tl195 _) : P := h
theorem tl193 (P : Prop) (h : P := by
 go_wp2_with (refine wpList_load_blk (b := w.heap.size) (o := 0) (ds := s.c.cs) SB.out (fun j v hv => by rw [Nat.zero_add]; exact St.cs_com OS.out A n cap j v hv) rfl rfl rfl Tryz.underlying41 rfl (by rw [Com.cs_len OS.out.c]; exact com_size) ?_)
 go_wp2_with fail
 refine (PC.out _).mono ?_
 rintro e w1 ⟨v1, rfl, o1, k1⟩
 obtain ⟨A1, c1, rfl, b1, -⟩ := o1.shape
 have q1 := b1.le
 have q2 := b1.max
 obtain ⟨cl, hcl⟩ : ∃ x, Hid ((comL s.c).length = x) := ⟨_, rfl⟩
 rw [hcl.out] at o1 q1 b1 ⊢
 have B1 := Lib.hid b1
 rw [hcl.out] at RS
 have O1 := Lib.hid o1
 have SB1 := Lib.hid (k1.blk SB.out (fun h => h))
 have KB1 := Lib.hid (KB.out.trans k1 (T := None) (fun _ h => h) (fun _ _ h => h))
 have CP0 : Hid (Copied w w1 (.slice none 0 0) []) := (Copied.none w).later KB1.out
 have HW0 := Lib.hid hw0
 clear o1 b1 k1 SB KB hw0
 by_cases g1 : 0 < cl
 ·exact tl194 _
 ·exact tl199 _) : P := h
set_option maxRecDepth 100000 in
set_option maxHeartbeats 3200000 in
theorem lgrecs_any (s : St) (os : s.ok) (A : Option Addr) (n cap : Nat) (P : Nat → Prop) (w : World) (hk : ChkV w P A n cap s.k.mid) :
    Calls Tryz.prog 59 #[s.v A n cap] w fun e w' => ∃ v rs, e = .returned v ∧ Copied w w' v rs ∧ rs.map RV.r = recsS s := by
 have OS := Lib.hid os
 have HM := Lib.hid hk
 obtain ⟨w0, hw0⟩ : ∃ x, w.alloc (.cells (s.cs A n cap).toArray 58) = x := ⟨_, rfl⟩
 have SB : Hid (Blk w0 w.heap.size (s.cs A n cap) 58) := by rw [← hw0]; exact Blk.new w (s.cs A n cap) 58
 have KB : Hid (Keeps None w w0) := by rw [← hw0]; exact (Keeps.refl None w).alloc _
 have S0 : w.heap.size < w0.heap.size := SB.out.lt
 have PC := Lib.hid (fun w => lgputc_any s.c os.c w)
 have PK := Lib.hid (fun w h => lgputk_any s.k os.k A n cap w h)
 unfold Com.v at PC
 unfold Chk.v at PK
 unfold St.v
 have RS : Hid (recsS s = (if 0 < (comL s.c).length then [⟨2, 0, comL s.c⟩] else []) ++ (if s.has = true ∧ 0 < (chkL s.k).length then [⟨3, 0, chkL s.k⟩] else [])) := rfl
 obtain ⟨V, hV⟩ : ∃ V, (s.cs A n cap).toArray = V := ⟨_, rfl⟩
 rw [hV] at hw0 ⊢
 clear hV os hk
 go_enter Tryz.func59, Tryz.ntmps59
 exact tl193 _
open Go.RowKit
theorem tornN_le (os ns ps : List Int) : (tornN os ns ps).length ≤ ns.length := by
 unfold tornN
 split
 ·rw [tornTo_length]; exact Nat.le_refl _
 ·exact Nat.zero_le _
theorem stepped_pass {s : FS} (h : ¬ s.left = 0) : s.stepped.pick = s.pick ∧ s.stepped.dark = s.dark ∧ s.stepped.er = s.er ∧ (s.left < 0 ↔ s.stepped.left < 0) := by
 unfold FS.stepped
 rw [if_neg h]
 split
 ·rename_i h2
  exact ⟨rfl, rfl, rfl, ⟨fun _ => h2, fun _ => h2⟩⟩
 ·refine ⟨rfl, rfl, rfl, ⟨fun h1 => by omega, fun h1 => by have h1 : s.left - 1 < 0 := h1; omega⟩⟩
theorem stepped_cutJ {s : FS} (h : s.left = 0) : s.stepped.pick = [] ∧ s.stepped.dark = true ∧ s.stepped.er = s.er := by
 unfold FS.stepped
 rw [if_neg (by omega), if_pos h]
 exact ⟨rfl, rfl, rfl⟩
theorem progW_out : ∀ (k : Nat) (s : FS) (p : Nat) (ws : List Int), ws.length = 8 * k → p + 8 * k ≤ s.b.length →
    ((progW k s p ws).2 = 0 ∧ (progW k s p ws).1.b = splice s.b p ws ∧ (progW k s p ws).1.dark = s.dark ∧ (progW k s p ws).1.pick = s.pick ∧ (progW k s p ws).1.er = s.er ∧ (s.left < 0 ↔ (progW k s p ws).1.left < 0)) ∨
    (∃ i, i < k ∧ (progW k s p ws).2 = 5 ∧ (progW k s p ws).1.dark = true ∧ (progW k s p ws).1.pick = [] ∧ (progW k s p ws).1.er = s.er ∧ 0 ≤ s.left ∧
      (progW k s p ws).1.b = splice s.b p (ws.take (8 * i) ++ tornN ((s.b.drop (p + 8 * i)).take 8) ((ws.drop (8 * i)).take 8) s.pick))
  | 0, s, p, ws, hw, _ => by
    have : ws = [] := List.eq_nil_of_length_eq_zero (by omega)
    subst this
    exact .inl ⟨rfl, by rw [splice_empty]; rfl, rfl, rfl, rfl, Iff.rfl⟩
  | k + 1, s, p, ws, hw, hp => by
    have h8 : (ws.take 8).length = 8 := by rw [List.length_take]; omega
    by_cases h0 : s.left = 0
    · refine .inr ⟨0, Nat.succ_pos _, ?_⟩
      obtain ⟨c1, c2, c3⟩ := stepped_cutJ h0
      have e : progW (k + 1) s p ws = ({ s.stepped with b := splice s.b p (tornN ((s.b.drop p).take 8) (ws.take 8) s.pick) }, 5) := if_pos h0
      rw [e]
      exact ⟨rfl, c2, c1, c3, by omega, by simp⟩
    · obtain ⟨c1, c2, c3, c4⟩ := stepped_pass h0
      have e : progW (k + 1) s p ws = progW k { s.stepped with b := splice s.b p (ws.take 8) } (p + 8) (ws.drop 8) := if_neg h0
      have hl : (splice s.b p (ws.take 8)).length = s.b.length := splice_len _ _ _ (by omega)
      have ih := progW_out k { s.stepped with b := splice s.b p (ws.take 8) } (p + 8) (ws.drop 8) (by rw [List.length_drop]; omega) (by show _ ≤ (splice s.b p (ws.take 8)).length; rw [hl]; omega)
      rw [← e] at ih
      dsimp only at ih
      rw [c1, c2, c3] at ih
      rcases ih with ⟨i1, i2, i3, i4, i5, i6⟩ | ⟨i, hi, i2, i3, i4, i5, i6, i7⟩
      · refine .inl ⟨i1, ?_, i3, i4, i5, c4.trans i6⟩
        rw [i2]
        have := splice_splice s.b (ws.take 8) (ws.drop 8) p (by rw [h8, List.length_drop]; omega)
        rw [h8, List.take_append_drop] at this
        exact this
      · refine .inr ⟨i + 1, by omega, i2, i3, i4, i5, by have := c4; omega, ?_⟩
        rw [i7]
        have hd : (splice s.b p (ws.take 8)).drop (p + 8 + 8 * i) = s.b.drop (p + 8 * (i + 1)) := by
          rw [splice_drop _ _ _ _ (by omega) (by omega)]
          congr 1; omega
        rw [hd]
        have hY : ((ws.drop 8).take (8 * i) ++ tornN ((s.b.drop (p + 8 * (i + 1))).take 8) (((ws.drop 8).drop (8 * i)).take 8) s.pick).length ≤ 8 * (i + 1) := by
          rw [List.length_append]
          have h1 := tornN_le ((s.b.drop (p + 8 * (i + 1))).take 8) (((ws.drop 8).drop (8 * i)).take 8) s.pick
          have h2 : (((ws.drop 8).drop (8 * i)).take 8).length ≤ 8 := by rw [List.length_take]; omega
          have h3 : ((ws.drop 8).take (8 * i)).length ≤ 8 * i := by rw [List.length_take]; omega
          omega
        have := splice_splice s.b (ws.take 8) ((ws.drop 8).take (8 * i) ++ tornN ((s.b.drop (p + 8 * (i + 1))).take 8) (((ws.drop 8).drop (8 * i)).take 8) s.pick) p (by rw [h8]; omega)
        rw [h8] at this
        rw [this, ← List.append_assoc]
        congr 2
        · rw [show 8 * (i + 1) = 8 + 8 * i by omega, List.take_add]
        · rw [List.drop_drop]
          congr 2
          congr 1
          omega
structure FG (s : FS) (n : Nat) : Prop where
  bl : s.b.length = 1024 * n
  el : s.er.length = n
  byt : Byt s.b
  pk : Byt s.pick
  n2 : 2 ≤ n
def secB (b : List Int) (k : Nat) : List Int := (b.drop (1024 * k)).take 1024
theorem secB_len {b : List Int} {n k : Nat} (hb : b.length = 1024 * n) (hk : k < n) : (secB b k).length = 1024 := by
 unfold secB; rw [List.length_take, List.length_drop]
 have : 1024 * k + 1024 ≤ 1024 * n := by omega
 omega
theorem Byt.sec {b : List Int} (h : Byt b) (k : Nat) : Byt (secB b k) := fun z hz => h z (List.mem_of_mem_drop (List.mem_of_mem_take hz))
theorem getD_secB (b : List Int) (k i : Nat) (hi : i < 1024) : (secB b k).getD i 0 = b.getD (1024 * k + i) 0 := by
 simp [secB, List.getD, List.getElem?_take, hi, List.getElem?_drop]
theorem ext_getD {l m : List Int} (hl : l.length = m.length) (h : ∀ i, i < l.length → l.getD i 0 = m.getD i 0) : l = m := by
 apply List.ext_getElem hl
 intro i h1 h2
 have := h i h1
 simpa [List.getD, h1, h2] using this
theorem secB_splice_in {b X : List Int} {n k p : Nat} (hb : b.length = 1024 * n) (hk : k < n) (hp : p + X.length ≤ 1024) : secB (splice b (1024 * k + p) X) k = splice (secB b k) p X := by
 have h1 : 1024 * k + 1024 ≤ 1024 * n := by omega
 have hl : 1024 * k + p + X.length ≤ b.length := by omega
 have hbl : (splice b (1024 * k + p) X).length = 1024 * n := by rw [splice_len _ _ _ hl]; exact hb
 have hs := secB_len hb hk
 refine ext_getD (by rw [secB_len hbl hk, splice_len _ _ _ (by omega), hs]) fun i hi => ?_
 rw [secB_len hbl hk] at hi
 rw [getD_secB _ _ _ hi, splice_getD _ _ _ hl, splice_getD _ _ _ (by omega), getD_secB _ _ _ hi]
 by_cases q : p ≤ i ∧ i < p + X.length
 ·rw [if_pos q, if_pos (by omega)]
  congr 1; omega
 ·rw [if_neg q, if_neg (by omega)]
theorem secB_splice_out {b X : List Int} {n k o p : Nat} (hb : b.length = 1024 * n) (hk : k < n) (ho : o < n) (hne : o ≠ k) (hp : p + X.length ≤ 1024) : secB (splice b (1024 * k + p) X) o = secB b o := by
 have h1 : 1024 * k + 1024 ≤ 1024 * n := by omega
 have hl : 1024 * k + p + X.length ≤ b.length := by omega
 have hbl : (splice b (1024 * k + p) X).length = 1024 * n := by rw [splice_len _ _ _ hl]; exact hb
 refine ext_getD (by rw [secB_len hbl ho, secB_len hb ho]) fun i hi => ?_
 rw [secB_len hbl ho] at hi
 rw [getD_secB _ _ _ hi, splice_getD _ _ _ hl, getD_secB _ _ _ hi, if_neg (by omega)]
structure Beh (s s' : FS) (n t : Nat) : Prop where
  g : FG s' n
  o : ∀ o, o < n → o ≠ t → secB s'.b o = secB s.b o
theorem Beh.refl {s : FS} {n t : Nat} (h : FG s n) : Beh s s n t := ⟨h, fun _ _ _ => rfl⟩
theorem Beh.trans {s s' s'' : FS} {n t : Nat} (h : Beh s s' n t) (k : Beh s' s'' n t) : Beh s s'' n t := ⟨k.g, fun o ho hne => (k.o o ho hne).trans (h.o o ho hne)⟩
theorem Beh.of {s s' : FS} {n t p : Nat} {X : List Int} (h : FG s n) (ht : t < n) (hb : s'.b = splice s.b (1024 * t + p) X) (hp : p + X.length ≤ 1024) (hX : Byt X) (hpk : s'.pick = s.pick ∨ s'.pick = []) (he : s'.er.length = n) : Beh s s' n t ∧ secB s'.b t = splice (secB s.b t) p X := by
 have h1 : 1024 * t + 1024 ≤ 1024 * n := by omega
 have hl : 1024 * t + p + X.length ≤ s.b.length := by rw [h.bl]; omega
 refine ⟨⟨⟨by rw [hb, splice_len _ _ _ hl, h.bl], he, by rw [hb]; exact splice_byte h.byt hX, ?_, h.n2⟩, fun o ho hne => by rw [hb]; exact secB_splice_out h.bl ht ho hne hp⟩, by rw [hb]; exact secB_splice_in h.bl ht hp⟩
 rcases hpk with e | e
 ·rw [e]; exact h.pk
 ·rw [e]; exact fun z hz => by cases hz
theorem gprog_out {s : FS} {n t p : Nat} {ws : List Int} (h : FG s n) (hd : s.dark = false) (ht : t < 2) (hp : p + ws.length ≤ 1024) (h8 : p % 8 = 0) (hw8 : ws.length % 8 = 0) (hw : Byt ws) (hc : canN (((secB s.b t).drop p).take ws.length) ws = true) :
    ((s.gprog 0 2 ((t : Int) * 1024 + p) ws).2 = 0 ∧ (s.gprog 0 2 ((t : Int) * 1024 + p) ws).1.dark = false ∧ Beh s (s.gprog 0 2 ((t : Int) * 1024 + p) ws).1 n t ∧ secB (s.gprog 0 2 ((t : Int) * 1024 + p) ws).1.b t = splice (secB s.b t) p ws ∧ (s.gprog 0 2 ((t : Int) * 1024 + p) ws).1.er = s.er ∧ (s.left < 0 ↔ (s.gprog 0 2 ((t : Int) * 1024 + p) ws).1.left < 0)) ∨
    (∃ i, 8 * i < ws.length ∧ (s.gprog 0 2 ((t : Int) * 1024 + p) ws).2 = 5 ∧ (s.gprog 0 2 ((t : Int) * 1024 + p) ws).1.dark = true ∧ Beh s (s.gprog 0 2 ((t : Int) * 1024 + p) ws).1 n t ∧ 0 ≤ s.left ∧
      secB (s.gprog 0 2 ((t : Int) * 1024 + p) ws).1.b t = splice (secB s.b t) p (ws.take (8 * i) ++ tornN (((secB s.b t).drop (p + 8 * i)).take 8) ((ws.drop (8 * i)).take 8) s.pick)) := by
  have htn : t < n := Nat.lt_of_lt_of_le ht h.n2
  have hn : 1024 * t + 1024 ≤ s.b.length := by rw [h.bl]; omega
  have w1 : withinB ((t : Int) * 1024 + p) ws.length (1024 * 2 : Nat) = true := decide_eq_true (by omega)
  have ea : (1024 * ((0 : Nat) : Int) + ((t : Int) * 1024 + p)) = ((1024 * t + p : Nat) : Int) := by omega
  have w2 : withinB ((1024 * t + p : Nat) : Int) ws.length s.b.length = true := decide_eq_true (by omega)
  have hdrop : ∀ q m, q + m ≤ 1024 → ((secB s.b t).drop q).take m = (s.b.drop (1024 * t + q)).take m := fun q m hq => by
    unfold secB
    rw [List.drop_take, List.take_take, List.drop_drop, Nat.min_eq_left (by omega)]
  have eP : s.gprog 0 2 ((t : Int) * 1024 + p) ws = progW (ws.length / 8) s (1024 * t + p) ws := by
    unfold FS.gprog
    rw [if_neg (by rw [hd]; decide), if_pos w1, ea]
    unfold FS.progF
    rw [if_neg (by rw [hd]; decide), if_neg (by rw [w2]; decide), if_neg (by omega), Int.toNat_natCast, if_neg (by rw [← hdrop p ws.length hp, hc]; decide)]
  rw [eP]
  have e8 : 8 * (ws.length / 8) = ws.length := by omega
  rcases progW_out (ws.length / 8) s (1024 * t + p) ws e8.symm (by omega) with ⟨a1, a2, a3, a4, a5, a6⟩ | ⟨i, hi, a1, a2, a3, a4, a5, a6⟩
  · obtain ⟨b1, b2⟩ := Beh.of h htn a2 hp hw (.inl a4) (by rw [a5]; exact h.el)
    exact .inl ⟨a1, a3.trans hd, b1, b2, a5, a6⟩
  · have hi8 : 8 * i + 8 ≤ ws.length := by omega
    rw [show 1024 * t + p + 8 * i = 1024 * t + (p + 8 * i) by omega, ← hdrop (p + 8 * i) 8 (by omega)] at a6
    have hX : Byt (ws.take (8 * i) ++ tornN (((secB s.b t).drop (p + 8 * i)).take 8) ((ws.drop (8 * i)).take 8) s.pick) := by
      intro z hz
      rcases List.mem_append.1 hz with hz | hz
      · exact hw z (List.mem_of_mem_take hz)
      · exact tornN_byte (fun z hz => (h.byt.sec t) z (List.mem_of_mem_drop (List.mem_of_mem_take hz))) (fun z hz => hw z (List.mem_of_mem_drop (List.mem_of_mem_take hz))) h.pk z hz
    have hXl : p + (ws.take (8 * i) ++ tornN (((secB s.b t).drop (p + 8 * i)).take 8) ((ws.drop (8 * i)).take 8) s.pick).length ≤ 1024 := by
      rw [List.length_append]
      have h1 := tornN_le (((secB s.b t).drop (p + 8 * i)).take 8) ((ws.drop (8 * i)).take 8) s.pick
      rw [List.length_take, List.length_drop] at h1
      rw [List.length_take]
      omega
    obtain ⟨b1, b2⟩ := Beh.of h htn a6 hXl hX (.inr a3) (by rw [a4]; exact h.el)
    exact .inr ⟨i, by omega, a1, a2, b1, a5, b2⟩
open Go.RowKit
theorem gerase_out {s : FS} {n t : Nat} (h : FG s n) (hd : s.dark = false) (ht : t < 2) :
    ((s.gerase 0 2 t).2 = 0 ∧ (s.gerase 0 2 t).1.dark = false ∧ Beh s (s.gerase 0 2 t).1 n t ∧ secB (s.gerase 0 2 t).1.b t = List.replicate 1024 255 ∧ (s.gerase 0 2 t).1.er = s.er.set t (s.er.getD t 0 + 1) ∧ (s.left < 0 ↔ (s.gerase 0 2 t).1.left < 0)) ∨
    ((s.gerase 0 2 t).2 = 5 ∧ (s.gerase 0 2 t).1.dark = true ∧ Beh s (s.gerase 0 2 t).1 n t ∧ 0 ≤ s.left ∧ secB (s.gerase 0 2 t).1.b t = halfN (secB s.b t) s.pick) := by
 have htn : t < n := Nat.lt_of_lt_of_le ht h.n2
 have ea : (((0 : Nat) : Int) + (t : Int)) = (t : Int) := by omega
 have el := h.el
 have eE : s.gerase 0 2 t = s.eraseF t := by
  unfold FS.gerase
  rw [if_neg (by rw [hd]; decide), if_neg (by omega), ea]
 rw [eE]
 have hsl := secB_len h.bl htn
 by_cases h0 : s.left = 0
 ·right
  have e : s.eraseF t = ({ (s.erased t).stepped with b := splice s.b (1024 * t) (halfN (secB s.b t) s.pick) }, 5) := by
   unfold FS.eraseF
   rw [if_neg (by rw [hd]; decide), if_neg (by omega), if_pos h0, Int.toNat_natCast]
   rfl
  rw [e]
  obtain ⟨c1, c2, c3⟩ := stepped_cutJ (s := s.erased t) h0
  have hX : (halfN (secB s.b t) s.pick).length = 1024 := by rw [halfN_length, hsl]
  obtain ⟨b1, b2⟩ := Beh.of (s' := { (s.erased t).stepped with b := splice s.b (1024 * t) (halfN (secB s.b t) s.pick) }) (p := 0) h htn rfl (by omega) (halfN_byte (h.byt.sec t) h.pk) (.inr c1) (by show (s.erased t).stepped.er.length = n; rw [c3]; show (s.er.set t _).length = n; rw [List.length_set]; exact el)
  refine ⟨rfl, c2, b1, by omega, b2.trans ?_⟩
  unfold splice
  rw [Nat.zero_add, hX, List.drop_eq_nil_of_le (by omega), List.take_zero, List.nil_append, List.append_nil]
 ·left
  have e : s.eraseF t = ({ (s.erased t).stepped with b := splice s.b (1024 * t) (List.replicate 1024 255) }, 0) := by
   unfold FS.eraseF
   rw [if_neg (by rw [hd]; decide), if_neg (by omega), if_neg h0, Int.toNat_natCast]
  rw [e]
  obtain ⟨c1, c2, c3, c4⟩ := stepped_pass (s := s.erased t) h0
  obtain ⟨b1, b2⟩ := Beh.of (s' := { (s.erased t).stepped with b := splice s.b (1024 * t) (List.replicate 1024 255) }) (p := 0) (X := List.replicate 1024 255) h htn rfl (by rw [List.length_replicate]; omega) (fun z hz => by rw [List.eq_of_mem_replicate hz]; decide) (.inl c1) (by show (s.erased t).stepped.er.length = n; rw [c3]; show (s.er.set t _).length = n; rw [List.length_set]; exact el)
  refine ⟨rfl, c2.trans hd, b1, b2.trans ?_, c3, c4⟩
  unfold splice
  rw [Nat.zero_add, List.length_replicate, List.drop_eq_nil_of_le (by omega), List.take_zero, List.nil_append, List.append_nil]
theorem gblank_out {s : FS} {t : Nat} (hd : s.dark = false) (ht : t < 2) : s.gblank 0 2 t = (blankB (secB s.b t), 0) := by
 unfold FS.gblank
 rw [if_neg (by rw [hd]; decide), if_neg (by omega), Int.toNat_natCast, Nat.zero_add]
 rfl
theorem blankB_eq {zs : List Int} (h : blankB zs = true) : zs = List.replicate zs.length 255 := by
 have h := of_decide_eq_true h
 refine ext_getD (by rw [List.length_replicate]) fun i hi => ?_
 rw [h i hi]
 simp [List.getD, hi]
def fullS (e : Nat) (b : List Int) : List Int := epoB e ++ (b ++ List.replicate (1008 - b.length) 255)
theorem rep_take (n k : Nat) (h : k ≤ n) : (List.replicate n (255 : Int)).take k = List.replicate k 255 := by rw [List.take_replicate, Nat.min_eq_left h]
theorem rep_drop (n k : Nat) : (List.replicate n (255 : Int)).drop k = List.replicate (n - k) 255 := by rw [List.drop_replicate]
theorem ff_byt (n : Nat) : Byt (List.replicate n 255) := fun z hz => by rw [List.eq_of_mem_replicate hz]; decide
theorem canN_append {a b c d : List Int} (h1 : canN a c = true) (h2 : canN b d = true) (ha : Byt a) (hb : Byt b) (hc : Byt c) (hd : Byt d) : canN (a ++ b) (c ++ d) = true := by
 have bt : ∀ {x y : List Int}, Byt x → Byt y → Byt (x ++ y) := fun hx hy z hz => (List.mem_append.1 hz).elim (hx z) (hy z)
 obtain ⟨l1, g1⟩ := (canN_iff ha hc).1 h1
 obtain ⟨l2, g2⟩ := (canN_iff hb hd).1 h2
 refine (canN_iff (bt ha hb) (bt hc hd)).2 ⟨by rw [List.length_append, List.length_append, l1, l2], fun i => ?_⟩
 by_cases hi : i < a.length
 ·rw [getD_frontL _ _ i hi, getD_frontL _ _ i (by omega)]; exact g1 i
 ·obtain ⟨j, rfl⟩ : ∃ j, i = a.length + j := ⟨i - a.length, by omega⟩
  rw [getD_back a b a.length j rfl, getD_back c d a.length j l1.symm]; exact g2 j
theorem head_cut {q i : Nat} (hq : q ≤ 4294967295) (hi : 8 * i < 16) {pk : List Int} (hp : Byt pk) (R : List Int) :
    canN (((epoB q).take (8 * i) ++ tornN (((List.replicate 16 (255 : Int) ++ R).drop (8 * i)).take 8) (((epoB q).drop (8 * i)).take 8) pk ++ List.replicate (8 - 8 * i) 255)) (epoB q) = true := by
 have bq := epoB_byte hq
 have lq := epoB_len hq
 have hb : Byt (((epoB q).drop (8 * i)).take 8) := fun z hz => bq z (List.mem_of_mem_drop (List.mem_of_mem_take hz))
 have hl8 : (((epoB q).drop (8 * i)).take 8).length = 8 := by rw [List.length_take, List.length_drop, lq]; omega
 have hd : ((List.replicate 16 (255 : Int) ++ R).drop (8 * i)).take 8 = List.replicate 8 255 := by
  rw [List.drop_append_of_le_length (by rw [List.length_replicate]; omega), rep_drop, List.take_append_of_le_length (by rw [List.length_replicate]; omega), rep_take _ _ (by omega)]
 rw [hd]
 have hc : canN (List.replicate 8 255) (((epoB q).drop (8 * i)).take 8) = true := by
  have := canN_ff _ hb
  rwa [hl8] at this
 have ht := canN_torn (ff_byt 8) hb hp hc
 have tb := tornN_byte (ff_byt 8) hb hp
 have e : epoB q = (epoB q).take (8 * i) ++ ((epoB q).drop (8 * i)).take 8 ++ (epoB q).drop (8 * i + 8) := by
  rw [List.append_assoc, ← List.drop_drop, List.take_append_drop, List.take_append_drop]
 have b1 : Byt ((epoB q).take (8 * i)) := fun z hz => bq z (List.mem_of_mem_take hz)
 have b3 : Byt ((epoB q).drop (8 * i + 8)) := fun z hz => bq z (List.mem_of_mem_drop hz)
 have l3 : ((epoB q).drop (8 * i + 8)).length = 8 - 8 * i := by rw [List.length_drop, lq]; omega
 have h3 : canN (List.replicate (8 - 8 * i) 255) ((epoB q).drop (8 * i + 8)) = true := by
  have := canN_ff _ b3
  rwa [l3] at this
 have bt : ∀ {x y : List Int}, Byt x → Byt y → Byt (x ++ y) := fun hx hy z hz => (List.mem_append.1 hz).elim (hx z) (hy z)
 have := canN_append (canN_append (canN_refl b1) ht b1 tb b1 hb) h3 (bt b1 tb) (ff_byt _) (bt b1 hb) b3
 rw [← e] at this
 exact this
theorem lay_out {s : FS} {n t e : Nat} {b : List Int} (h : FG s n) (hd : s.dark = false) (ht : t < 2) (he : e + 1 ≤ 4294967295) (hb : Byt b) (hbl : b.length ≤ 1008) (hb8 : b.length % 8 = 0) :
    Beh s (layF s t e b).1 n t ∧
    (((layF s t e b).2 = 0 ∧ (layF s t e b).1.dark = false ∧ secB (layF s t e b).1.b t = fullS (e + 1) b ∧ (s.left < 0 ↔ (layF s t e b).1.left < 0) ∧ (layF s t e b).1.er = (if blankB (secB s.b t) = true then s.er else s.er.set t (s.er.getD t 0 + 1))) ∨
     ((layF s t e b).2 = 5 ∧ (layF s t e b).1.dark = true ∧ 0 ≤ s.left ∧ (secB (layF s t e b).1.b t = fullS (e + 1) b ∨ canN (secB (layF s t e b).1.b t) (secB s.b t) = true ∨ (canN ((secB (layF s t e b).1.b t).take 16) (epoB (e + 1)) = true ∧ (secB (layF s t e b).1.b t).take 16 ≠ epoB (e + 1))))) := by
  have htn : t < n := Nat.lt_of_lt_of_le ht h.n2
  have hE : layE s t = if blankB (secB s.b t) = false then s.gerase 0 2 t else (s, 0) := by
    unfold layE
    rw [gblank_out hd ht]
    by_cases q : blankB (secB s.b t) = false
    · rw [if_pos q, if_pos ⟨rfl, q⟩]
    · rw [if_neg q, if_neg (fun h => q h.2)]
  have P1 : (∃ s1 : FS, layE s t = (s1, 0) ∧ s1.dark = false ∧ Beh s s1 n t ∧ secB s1.b t = List.replicate 1024 255 ∧ (s.left < 0 ↔ s1.left < 0) ∧ s1.er = (if blankB (secB s.b t) = true then s.er else s.er.set t (s.er.getD t 0 + 1))) ∨
      (∃ s1 : FS, layE s t = (s1, 5) ∧ s1.dark = true ∧ Beh s s1 n t ∧ 0 ≤ s.left ∧ canN (secB s1.b t) (secB s.b t) = true) := by
    rw [hE]
    by_cases q : blankB (secB s.b t) = false
    · rw [if_pos q]
      rcases gerase_out h hd ht with ⟨a1, a2, a3, a4, a5, a6⟩ | ⟨a1, a2, a3, a4, a5⟩
      · exact .inl ⟨(s.gerase 0 2 t).1, Prod.ext rfl a1, a2, a3, a4, a6, by rw [if_neg (by rw [q]; decide)]; exact a5⟩
      · exact .inr ⟨(s.gerase 0 2 t).1, Prod.ext rfl a1, a2, a3, a4, by rw [a5]; exact canN_half (h.byt.sec t) h.pk⟩
    · have q' : blankB (secB s.b t) = true := by simpa using q
      rw [if_neg q, if_pos q']
      refine .inl ⟨s, rfl, hd, Beh.refl h, ?_, Iff.rfl, rfl⟩
      have := blankB_eq q'
      rwa [secB_len h.bl htn] at this
  unfold layF
  rcases P1 with ⟨s1, e1, d1, B1, c1, l1, er1⟩ | ⟨s1, e1, d1, B1, l1, c1⟩
  rotate_left
  · have e2 : layP (layE s t) t b = (s1, 5) := by rw [e1]; exact if_neg (show ¬ (5 : Int) = 0 by decide)
    have e3 : layH (s1, 5) t e = (s1, 5) := if_neg (show ¬ (5 : Int) = 0 by decide)
    rw [e2, e3]
    exact ⟨B1, .inr ⟨rfl, d1, l1, .inr (.inl c1)⟩⟩
  have e2 : layP (layE s t) t b = s1.gprog 0 2 ((t : Int) * 1024 + ((16 : Nat) : Int)) b := by rw [e1]; exact if_pos rfl
  rw [e2]
  have can1 : canN (((secB s1.b t).drop 16).take b.length) b = true := by
    rw [c1, rep_drop, rep_take _ _ (by omega)]
    exact canN_ff b hb
  have hq : e + 1 ≤ 4294967295 := he
  have bq := epoB_byte hq
  have lq := epoB_len hq
  rcases gprog_out B1.g d1 ht (show 16 + b.length ≤ 1024 by omega) (by decide) hb8 hb can1 with ⟨a1, a2, a3, a4, a5, a6⟩ | ⟨i, hi, a1, a2, a3, a5, a6⟩
  rotate_left
  · have e3 : layH (s1.gprog 0 2 ((t : Int) * 1024 + ((16 : Nat) : Int)) b) t e = s1.gprog 0 2 ((t : Int) * 1024 + ((16 : Nat) : Int)) b := if_neg (by rw [a1]; decide)
    rw [e3]
    refine ⟨B1.trans a3, .inr ⟨a1, a2, by omega, .inr (.inr ?_)⟩⟩
    have t16 : (secB (s1.gprog 0 2 ((t : Int) * 1024 + ((16 : Nat) : Int)) b).1.b t).take 16 = List.replicate 16 255 := by
      rw [a6, c1]
      unfold splice
      rw [rep_take _ _ (by omega), List.take_append_of_le_length (by rw [List.length_replicate]; omega), List.take_of_length_le (by rw [List.length_replicate]; omega)]
    rw [t16]
    refine ⟨by have := canN_ff _ bq; rwa [lq] at this, fun hh => ?_⟩
    have h0 : (List.replicate 16 (255 : Int)).getD 0 0 = (epoB (e + 1)).getD 0 0 := by rw [hh]
    rw [epoB_eq hq] at h0
    exact absurd (show (255 : Int) = 1 from h0) (by decide)
  have hs2 : secB (s1.gprog 0 2 ((t : Int) * 1024 + ((16 : Nat) : Int)) b).1.b t = List.replicate 16 255 ++ (b ++ List.replicate (1008 - b.length) 255) := by
    rw [a4, c1]
    unfold splice
    rw [rep_take _ _ (by omega), rep_drop, show 1024 - (16 + b.length) = 1008 - b.length by omega]
  obtain ⟨s2, hs2e⟩ : ∃ x, (s1.gprog 0 2 ((t : Int) * 1024 + ((16 : Nat) : Int)) b).1 = x := ⟨_, rfl⟩
  have ePair : s1.gprog 0 2 ((t : Int) * 1024 + ((16 : Nat) : Int)) b = (s2, 0) := Prod.ext hs2e a1
  rw [ePair] at a2 a3 a5 a6 hs2 ⊢
  dsimp only at a2 a3 a5 a6 hs2
  have B2 := B1.trans a3
  have e3 : layH (s2, 0) t e = s2.gprog 0 2 ((t : Int) * 1024 + ((0 : Nat) : Int)) (epoB (e + 1)) := by
    have : layH (s2, 0) t e = s2.gprog 0 2 ((t : Int) * 1024) (putL 1 ((e : Int) + 1) []) := if_pos rfl
    rw [this]
    show _ = s2.gprog 0 2 ((t : Int) * 1024 + ((0 : Nat) : Int)) (putL 1 ((e + 1 : Nat) : Int) [])
    rw [show ((e + 1 : Nat) : Int) = (e : Int) + 1 by omega, show ((t : Int) * 1024 + ((0 : Nat) : Int)) = (t : Int) * 1024 by omega]
  rw [e3]
  have can2 : canN (((secB s2.b t).drop 0).take (epoB (e + 1)).length) (epoB (e + 1)) = true := by
    rw [hs2, List.drop_zero, lq, List.take_append_of_le_length (by rw [List.length_replicate]; omega), List.take_of_length_le (by rw [List.length_replicate]; omega)]
    have := canN_ff _ bq
    rwa [lq] at this
  rcases gprog_out a3.g a2 ht (show 0 + (epoB (e + 1)).length ≤ 1024 by omega) (by decide) (by rw [lq]) bq can2 with ⟨b1, b2, b3, b4, b5, b6⟩ | ⟨i, hi, b1, b2, b3, b5, b6⟩
  · refine ⟨B2.trans b3, .inl ⟨b1, b2, ?_, l1.trans (a6.trans b6), b5.trans (a5.trans er1)⟩⟩
    rw [b4, hs2]
    unfold splice fullS
    rw [List.take_zero, List.nil_append, Nat.zero_add, lq, List.drop_append_of_le_length (by rw [List.length_replicate]; omega), rep_drop]
    rfl
  · have lt := l1
    rw [lq] at hi
    refine ⟨B2.trans b3, .inr ⟨b1, b2, by omega, ?_⟩⟩
    have hcut := head_cut hq hi a3.g.pk (b ++ List.replicate (1008 - b.length) 255)
    have hwl : (((epoB (e + 1)).drop (8 * i)).take 8).length = 8 := by rw [List.length_take, List.length_drop, lq]; omega
    have hdd : ((List.replicate 16 (255 : Int) ++ (b ++ List.replicate (1008 - b.length) 255)).drop (8 * i)).take 8 = List.replicate 8 255 := by
      rw [List.drop_append_of_le_length (by rw [List.length_replicate]; omega), rep_drop, List.take_append_of_le_length (by rw [List.length_replicate]; omega), rep_take _ _ (by omega)]
    have hcan8 : canN (List.replicate 8 255) (((epoB (e + 1)).drop (8 * i)).take 8) = true := by
      have := canN_ff (((epoB (e + 1)).drop (8 * i)).take 8) (fun z hz => bq z (List.mem_of_mem_drop (List.mem_of_mem_take hz)))
      rwa [hwl] at this
    rw [hs2, Nat.zero_add, hdd] at b6
    rw [hdd] at hcut
    have htl : (tornN (List.replicate 8 255) (((epoB (e + 1)).drop (8 * i)).take 8) s2.pick).length = 8 := by
      unfold tornN; rw [if_pos hcan8, tornTo_length, hwl]
    have hfl : ((epoB (e + 1)).take (8 * i) ++ tornN (List.replicate 8 255) (((epoB (e + 1)).drop (8 * i)).take 8) s2.pick).length = 8 * i + 8 := by
      rw [List.length_append, htl, List.length_take, lq]; omega
    have hsec : secB (s2.gprog 0 2 ((t : Int) * 1024 + ((0 : Nat) : Int)) (epoB (e + 1))).1.b t = ((epoB (e + 1)).take (8 * i) ++ tornN (List.replicate 8 255) (((epoB (e + 1)).drop (8 * i)).take 8) s2.pick ++ List.replicate (8 - 8 * i) 255) ++ (b ++ List.replicate (1008 - b.length) 255) := by
      rw [b6]
      unfold splice
      rw [List.take_zero, List.nil_append, Nat.zero_add, hfl, List.drop_append_of_le_length (by rw [List.length_replicate]; omega), rep_drop, show 16 - (8 * i + 8) = 8 - 8 * i by omega, ← List.append_assoc]
    have hl16 : ((epoB (e + 1)).take (8 * i) ++ tornN (List.replicate 8 255) (((epoB (e + 1)).drop (8 * i)).take 8) s2.pick ++ List.replicate (8 - 8 * i) 255).length = 16 := by
      rw [List.length_append, hfl, List.length_replicate]; omega
    obtain ⟨H, hH⟩ : ∃ H, (epoB (e + 1)).take (8 * i) ++ tornN (List.replicate 8 255) (((epoB (e + 1)).drop (8 * i)).take 8) s2.pick ++ List.replicate (8 - 8 * i) 255 = H := ⟨_, rfl⟩
    rw [hH] at hsec hcut hl16
    have ht16 : (secB (s2.gprog 0 2 ((t : Int) * 1024 + ((0 : Nat) : Int)) (epoB (e + 1))).1.b t).take 16 = H := by rw [hsec]; exact List.take_left' hl16
    rw [ht16]
    by_cases heq : H = epoB (e + 1)
    · left
      rw [hsec, heq]
      rfl
    · exact .inr (.inr ⟨hcut, heq⟩)
open Go.RowKit
def pkL : List Rec → List Int
  | [] => []
  | r :: rs => r.put ++ pkL rs
theorem pkL_append : ∀ (xs ys : List Rec), pkL (xs ++ ys) = pkL xs ++ pkL ys
  | [], _ => rfl
  | x :: xs, ys => by simp only [List.cons_append, pkL, pkL_append xs ys, List.append_assoc]
structure GR (r : Rec) : Prop where
  k1 : r.k ≠ 1
  fits : fitsR r.k r.s r.b.length
  byt : Byt r.b
theorem GR.len {r : Rec} (h : GR r) : (r.put.length : Int) = sizeZ r.b.length := putL_len _ _ _ h.fits
theorem GR.ge {r : Rec} (h : GR r) : 16 ≤ r.put.length ∧ r.put.length % 8 = 0 := by
 have h1 := h.len
 have h5 := h.fits.2.2.2.2
 have e : sizeZ r.b.length = 16 + ((r.b.length : Int) + 7) / 8 * 8 := if_neg (by omega)
 omega
theorem putL_byt {k s : Int} {b : List Int} (hb : Byt b) : Byt (putL k s b) := by
 unfold putL
 split
 ·rename_i hf
  obtain ⟨f1, f2, f3, f4, f5⟩ := hf
  have hF : Byt (frontL k s b) := by
   intro z hz
   unfold frontL at hz
   rcases List.mem_append.1 hz with hz | hz
   ·rcases List.mem_append.1 hz with hz | hz
    ·rcases List.mem_append.1 hz with hz | hz
     ·simp only [headL, List.mem_cons, List.not_mem_nil, or_false] at hz
      rcases hz with rfl | rfl | rfl | rfl <;> omega
     ·exact le4_byte _ (by omega) z hz
    ·exact hb z hz
   ·rw [List.eq_of_mem_replicate hz]; decide
  intro z hz
  rcases List.mem_append.1 hz with hz | hz
  ·exact hF z hz
  ·have h1 : sumOf (frontL k s b) < 4294967296 := crcOf_lt (natL_lt hF)
   have h2 : sumOf (frontL k s b) ^^^ 4294967295 < 2 ^ 32 := Nat.xor_lt_two_pow (by omega) (by decide)
   rcases List.mem_append.1 hz with hz | hz
   ·exact le4_byte _ h1 z hz
   ·exact le4_byte _ (by omega) z hz
 ·intro z hz; cases hz
theorem pkL_byt : ∀ (rs : List Rec), (∀ r ∈ rs, GR r) → Byt (pkL rs)
  | [], _, z, hz => by cases hz
  | r :: rs, h, z, hz => by
    rcases List.mem_append.1 hz with hz | hz
    · exact putL_byt (h r List.mem_cons_self).byt z hz
    · exact pkL_byt rs (fun x hx => h x (List.mem_cons_of_mem _ hx)) z hz
theorem pkL_len : ∀ (rs : List Rec), (∀ r ∈ rs, GR r) → 16 * rs.length ≤ (pkL rs).length ∧ (pkL rs).length % 8 = 0
  | [], _ => ⟨Nat.le_refl _, rfl⟩
  | r :: rs, h => by
    have h1 := (h r List.mem_cons_self).ge
    have h2 := pkL_len rs (fun x hx => h x (List.mem_cons_of_mem _ hx))
    simp only [pkL, List.length_append, List.length_cons]
    omega
theorem parse_pack : ∀ (rs : List Rec) (f : Nat) (A T : List Int), rs.length < f → (∀ r ∈ rs, GR r) → getL T = none → parseF f (A ++ (pkL rs ++ T)) A.length = (rs, A.length + (pkL rs).length)
  | [], f, A, T, hf, _, hT => by
    obtain ⟨g, rfl⟩ : ∃ g, f = g + 1 := ⟨f - 1, by simp at hf; omega⟩
    unfold parseF
    rw [List.drop_left]
    simp only [pkL, List.nil_append, hT, List.length_nil, Nat.add_zero]
  | r :: rs, f, A, T, hf, h, hT => by
    obtain ⟨g, rfl⟩ : ∃ g, f = g + 1 := ⟨f - 1, by simp at hf; omega⟩
    have hr := h r List.mem_cons_self
    have hg : getL (r.put ++ (pkL rs ++ T)) = some (r.k, r.s, r.b, sizeZ r.b.length) := get_put r.k r.s r.b (pkL rs ++ T) hr.fits
    have hl := hr.len
    have ih := parse_pack rs g (A ++ r.put) T (by simp at hf; omega) (fun x hx => h x (List.mem_cons_of_mem _ hx)) hT
    have e1 : A ++ (pkL (r :: rs) ++ T) = A ++ (r.put ++ (pkL rs ++ T)) := by simp only [pkL, List.append_assoc]
    have e2 : (A ++ r.put) ++ (pkL rs ++ T) = A ++ (r.put ++ (pkL rs ++ T)) := List.append_assoc _ _ _
    rw [e1]
    unfold parseF
    rw [List.drop_left, hg]
    simp only
    rw [if_neg hr.k1]
    have e3 : A.length + (sizeZ r.b.length).toNat = (A ++ r.put).length := by rw [List.length_append]; omega
    rw [e3, ← e2, ih]
    simp only [pkL, List.length_append, Nat.add_assoc]
structure SecH (zs : List Int) (e : Nat) (l : List Rec) (T : List Int) : Prop where
  eq : zs = epoB e ++ (pkL l ++ T)
  e1 : 1 ≤ e
  e2 : e ≤ 4294967295
  gr : ∀ r ∈ l, GR r
  tl : getL T = none
  len : zs.length = 1024
theorem SecH.ll {zs : List Int} {e : Nat} {l : List Rec} {T : List Int} (h : SecH zs e l T) : l.length ≤ 63 ∧ (pkL l).length + T.length = 1008 := by
 have h1 := congrArg List.length h.eq
 rw [h.len, List.length_append, List.length_append, epoB_len h.e2] at h1
 have h2 := pkL_len l h.gr
 omega
theorem SecH.t16 {zs : List Int} {e : Nat} {l : List Rec} {T : List Int} (h : SecH zs e l T) : zs.take 16 = epoB e := by rw [h.eq]; exact List.take_left' (epoB_len h.e2)
theorem SecH.parse {zs : List Int} {e : Nat} {l : List Rec} {T : List Int} (h : SecH zs e l T) : parseF 64 zs 16 = (l, 16 + (pkL l).length) ∧ zs.drop (16 + (pkL l).length) = T := by
 have hl := epoB_len h.e2
 have h1 := parse_pack l 64 (epoB e) T (by have := h.ll.1; omega) h.gr h.tl
 rw [← h.eq, hl] at h1
 refine ⟨h1, ?_⟩
 rw [h.eq, ← List.append_assoc]
 exact List.drop_left' (by rw [List.length_append, hl])
theorem getL_ff (n : Nat) : getL (List.replicate n 255) = none := by
 exact tl162 _
theorem SecH.full {e : Nat} {l : List Rec} (h1 : 1 ≤ e) (h2 : e ≤ 4294967295) (hg : ∀ r ∈ l, GR r) (hl : (pkL l).length ≤ 1008) : SecH (fullS e (pkL l)) e l (List.replicate (1008 - (pkL l).length) 255) :=
  ⟨rfl, h1, h2, hg, getL_ff _, by unfold fullS; rw [List.length_append, List.length_append, epoB_len h2, List.length_replicate]; omega⟩
def Keep (s : FS) (e : Nat) (c : Int) (l : List Rec) (T : List Int) : Prop :=
  (e = 0 ∧ c = -1 ∧ l = [] ∧ T = [] ∧ LowS 0 (secB s.b 0) ∧ LowS 0 (secB s.b 1)) ∨
  (∃ t : Nat, t < 2 ∧ c = (t : Int) ∧ SecH (secB s.b t) e l T ∧ LowS (e - 1) (secB s.b (1 - t)))
def keptJ (e : Nat) (c : Int) (l : List Rec) (T : List Int) : JS := if c = -1 then jnone e c else ⟨l, e, c, 16 + (pkL l).length, !blankB T, 0⟩
theorem sec_eq (s : FS) (k : Nat) : sec s k = secB s.b k := rfl
theorem Keep.open {s : FS} {n e : Nat} {c : Int} {l : List Rec} {T : List Int} (g : FG s n) (h : Keep s e c l T) : openS s = keptJ e c l T := by
 rcases h with ⟨rfl, rfl, rfl, rfl, h0, h1⟩ | ⟨t, ht, rfl, hs, ho⟩
 ·have e0 : ¬ (((selF s 0).1 : Int) < epochF (sec s 0)) := by
   have := h0.self (g.byt.sec 0)
   show ¬ (((0 : Nat) : Int) < epochF (secB s.b 0))
   omega
  have s1 : selF s 1 = (0, -1) := if_neg e0
  have e1 : ¬ (((selF s 1).1 : Int) < epochF (sec s 1)) := by
   have := h1.self (g.byt.sec 1)
   rw [s1]
   show ¬ (((0 : Nat) : Int) < epochF (secB s.b 1))
   omega
  have s2 : selF s 2 = (0, -1) := (if_neg e1).trans s1
  unfold openS keptJ
  rw [s2, if_pos rfl, if_pos rfl]
 ·have ep : epochF (sec s t) = e := epochF_epoB hs.e2 hs.t16
  have e1 := hs.e1
  have s2 : selF s 2 = (e, (t : Int)) := by
   obtain rfl | rfl : t = 0 ∨ t = 1 := by omega
   ·have lo : epochF (secB s.b 1) ≤ ((e - 1 : Nat) : Int) := ho.self (g.byt.sec _)
    have q1 : ((selF s 0).1 : Int) < epochF (sec s 0) := by rw [ep]; show ((0 : Nat) : Int) < (e : Int); omega
    have s1 : selF s 1 = (e, 0) := (if_pos q1).trans (by rw [ep, Int.toNat_natCast]; rfl)
    have q2 : ¬ (((selF s 1).1 : Int) < epochF (sec s 1)) := by rw [s1]; show ¬ ((e : Int) < epochF (secB s.b 1)); omega
    exact (if_neg q2).trans s1
   ·have lo : epochF (secB s.b 0) ≤ ((e - 1 : Nat) : Int) := ho.self (g.byt.sec _)
    have bd := epochF_bd (secB s.b 0)
    have s1 : ((selF s 1).1 : Int) < (e : Int) := by
     by_cases q : ((selF s 0).1 : Int) < epochF (sec s 0)
     ·have e1 : selF s 1 = ((epochF (sec s 0)).toNat, 0) := if_pos q
      rw [e1]
      show (((epochF (secB s.b 0)).toNat : Nat) : Int) < _
      omega
     ·have e1 : selF s 1 = (0, -1) := if_neg q
      rw [e1]
      show ((0 : Nat) : Int) < _
      omega
    have q2 : ((selF s 1).1 : Int) < epochF (sec s 1) := by rw [ep]; exact s1
    exact (if_pos q2).trans (by rw [ep, Int.toNat_natCast])
  obtain ⟨p1, p2⟩ := hs.parse
  unfold openS keptJ
  rw [s2]
  dsimp only
  rw [if_neg (by omega), if_neg (by omega), Int.toNat_natCast, sec_eq, p1]
  dsimp only
  rw [p2]
  rfl
theorem packF_some : ∀ (rs : List Rec) (out b : List Int), packF out rs = some b → b = out ++ pkL rs ∧ ∀ r ∈ rs, r.k ≠ 1 ∧ fitsR r.k r.s r.b.length
  | [], out, b, e => by
    simp only [packF, Option.some.injEq] at e
    exact ⟨by rw [← e]; simp [pkL], by simp⟩
  | r :: rs, out, b, e => by
    unfold packF at e
    split at e
    · cases e
    · rename_i h1
      obtain ⟨e1, e2⟩ := packF_some rs _ b e
      refine ⟨by rw [e1]; simp [pkL], fun x hx => ?_⟩
      rcases List.mem_cons.1 hx with rfl | hx
      · refine ⟨fun h => h1 (.inl h), Classical.byContradiction fun hf => h1 (.inr (.inl ?_))⟩
        show (putL x.k x.s x.b).length = 0
        unfold putL
        rw [if_neg hf]; rfl
      · exact e2 x hx
theorem FG.boot {s : FS} {n : Nat} (h : FG s n) : FG s.bootF n := ⟨h.bl, h.el, h.byt, (fun z hz => by cases hz), h.n2⟩
theorem Keep.lay {s : FS} {n e : Nat} {c : Int} {l m : List Rec} {T : List Int} (g : FG s n) (hd : s.dark = false) (h : Keep s e c l T) (he : e + 1 ≤ 4294967295) (hm : ∀ r ∈ m, GR r) (hml : (pkL m).length ≤ 1008) :
    FG (layF s (nextZ c) e (pkL m)).1 n ∧
    (((layF s (nextZ c) e (pkL m)).2 = 0 ∧ (layF s (nextZ c) e (pkL m)).1.dark = false ∧ Keep (layF s (nextZ c) e (pkL m)).1 (e + 1) (nextZ c) m (List.replicate (1008 - (pkL m).length) 255) ∧ (s.left < 0 ↔ (layF s (nextZ c) e (pkL m)).1.left < 0) ∧
        (layF s (nextZ c) e (pkL m)).1.er = (if blankB (secB s.b (nextZ c).toNat) = true then s.er else s.er.set (nextZ c).toNat (s.er.getD (nextZ c).toNat 0 + 1)) ∧ (∀ o, o < n → o ≠ (nextZ c).toNat → secB (layF s (nextZ c) e (pkL m)).1.b o = secB s.b o)) ∨
     ((layF s (nextZ c) e (pkL m)).2 = 5 ∧ 0 ≤ s.left ∧ (Keep (layF s (nextZ c) e (pkL m)).1.bootF e c l T ∨ Keep (layF s (nextZ c) e (pkL m)).1.bootF (e + 1) (nextZ c) m (List.replicate (1008 - (pkL m).length) 255)))) := by
  obtain ⟨t, ht, hnt⟩ : ∃ t : Nat, t < 2 ∧ nextZ c = t := by
    unfold nextZ
    split
    · exact ⟨1, by decide, rfl⟩
    · exact ⟨0, by decide, rfl⟩
  have h8 := (pkL_len m hm).2
  obtain ⟨B, out⟩ := lay_out g hd ht he (pkL_byt m hm) hml h8
  rw [hnt, Int.toNat_natCast]
  have htn : t < n := Nat.lt_of_lt_of_le ht g.n2
  have hon : 1 - t < n := by have := g.n2; omega
  have hne : 1 - t ≠ t := by omega
  have hoth := B.o (1 - t) hon hne
  have LT : LowS (e - 1) (secB s.b t) ∧ LowS e (secB s.b (1 - t)) := by
    rcases h with ⟨rfl, rfl, rfl, rfl, h0, h1⟩ | ⟨t0, ht0, rfl, hs, ho⟩
    · have : t = 0 := by have : nextZ (-1) = 0 := by decide
                         omega
      subst this
      exact ⟨h0, h1⟩
    · have : t = 1 - t0 := by
        have e1 : nextZ (t0 : Int) = ((1 - t0 : Nat) : Int) := by
          unfold nextZ
          split <;> omega
        omega
      subst this
      rw [show 1 - (1 - t0) = t0 by omega]
      exact ⟨ho, LowS.whole hs.e2 hs.t16⟩
  have whole : secB (layF s t e (pkL m)).1.b t = fullS (e + 1) (pkL m) → ∀ s', s'.b = (layF s t e (pkL m)).1.b → Keep s' (e + 1) (t : Int) m (List.replicate (1008 - (pkL m).length) 255) := fun hw s' hb =>
    .inr ⟨t, ht, rfl, by rw [hb, hw]; exact SecH.full (by omega) he hm hml, by rw [hb, hoth, show e + 1 - 1 = e by omega]; exact LT.2⟩
  have old : LowS (e - 1) (secB (layF s t e (pkL m)).1.b t) → Keep (layF s t e (pkL m)).1.bootF e c l T := fun hlow => by
    have hb : (layF s t e (pkL m)).1.bootF.b = (layF s t e (pkL m)).1.b := rfl
    rcases h with ⟨rfl, rfl, rfl, rfl, h0, h1⟩ | ⟨t0, ht0, rfl, hs, ho⟩
    · have : t = 0 := by have : nextZ (-1) = 0 := by decide
                         omega
      subst this
      exact .inl ⟨rfl, rfl, rfl, rfl, by rw [hb]; exact hlow, by rw [hb]; have := hoth; rw [show 1 - 0 = 1 from rfl] at this; rw [this]; exact h1⟩
    · have : t = 1 - t0 := by
        have e1 : nextZ (t0 : Int) = ((1 - t0 : Nat) : Int) := by
          unfold nextZ
          split <;> omega
        omega
      subst this
      rw [show 1 - (1 - t0) = t0 by omega] at hoth
      exact .inr ⟨t0, ht0, rfl, by rw [hb, hoth]; exact hs, by rw [hb]; exact hlow⟩
  refine ⟨B.g, ?_⟩
  rcases out with ⟨a1, a2, a3, a4, a5⟩ | ⟨a1, a2, a3, a4⟩
  · exact .inl ⟨a1, a2, whole a3 _ rfl, a4, a5, B.o⟩
  · refine .inr ⟨a1, a3, ?_⟩
    rcases a4 with a4 | a4 | ⟨a4, a5⟩
    · exact .inr (whole a4 _ rfl)
    · exact .inl (old (LT.1.up (g.byt.sec t) (B.g.byt.sec t) a4))
    · exact .inl (old ((LowS.part (B.g.byt.sec t) he a4 a5).mono (Nat.zero_le _)))
open Go.RowKit
theorem tailL_len (F : List Int) : (tailL F).length = 8 := by simp [tailL, le4]
theorem get_some {xs bl : List Int} {k s n : Int} (h : getL xs = some (k, s, bl, n)) :
    n = sizeZ (xs.getD 2 0 + xs.getD 3 0 * 256) ∧ 16 ≤ n ∧ n ≤ xs.length ∧ ∃ F, xs.take n.toNat = F ++ tailL F ∧ n = F.length + 8 := by
 unfold getL at h
 split at h
 ·cases h
 ·simp only at h
  split at h
  ·cases h
  ·rename_i h1 h2
   split at h
   ·rename_i h3
    simp only [Option.some.injEq, Prod.mk.injEq] at h
    obtain ⟨e1, e2, e3, e4⟩ := h
    rw [e1, e2, e3, e4] at h3
    have hn0 : n ≠ 0 := by rw [← e4]; exact fun e => h2 (.inl e)
    have hle : n ≤ xs.length := by rw [← e4]; exact Int.not_lt.1 fun e => h2 (.inr e)
    have hsz : n = 16 + ((xs.getD 2 0 + xs.getD 3 0 * 256) + 7) / 8 * 8 ∧ 0 ≤ xs.getD 2 0 + xs.getD 3 0 * 256 := by
     unfold sizeZ at e4
     split at e4
     ·omega
     ·constructor <;> omega
    refine ⟨e4.symm, by omega, hle, ?_⟩
    have hl := congrArg List.length h3
    rw [List.length_take] at hl
    by_cases hf : fitsR k s bl.length
    ·have hp : putL k s bl = frontL k s bl ++ tailL (frontL k s bl) := if_pos hf
     refine ⟨frontL k s bl, by rw [← h3, hp], ?_⟩
     rw [hp, List.length_append, tailL_len] at hl
     omega
    ·have hp : putL k s bl = [] := if_neg hf
     rw [hp] at hl
     simp at hl
     omega
   ·cases h
theorem tail_ff (F : List Int) (h : ∀ i, i < 8 → (tailL F).getD i 0 = 255) : False := by
 have a0 := h 0 (by decide)
 have a1 := h 1 (by decide)
 have a2 := h 2 (by decide)
 have a3 := h 3 (by decide)
 have a4 := h 4 (by decide)
 have a5 := h 5 (by decide)
 have a6 := h 6 (by decide)
 have a7 := h 7 (by decide)
 simp only [tailL, le4, List.cons_append, List.nil_append, List.getD_cons_zero, List.getD_cons_succ] at a0 a1 a2 a3 a4 a5 a6 a7
 have hx : sumOf F = 4294967295 := by omega
 rw [hx] at a4
 exact absurd a4 (by decide)
theorem get_ff {xs : List Int} (h : ∀ n, n = sizeZ (xs.getD 2 0 + xs.getD 3 0 * 256) → 16 ≤ n → n ≤ xs.length → ∀ i, i < 8 → xs.getD (n.toNat - 8 + i) 0 = 255) : getL xs = none := by
 cases hg : getL xs with
 | none => rfl
 | some r =>
  exfalso
  obtain ⟨k, s, bl, n⟩ := r
  obtain ⟨h1, h2, h3, F, h4, h5⟩ := get_some hg
  refine tail_ff F fun i hi => ?_
  rw [← h n h1 h2 h3 i hi]
  have e : n.toNat - 8 = F.length := by omega
  have : xs.getD (F.length + i) 0 = (xs.take n.toNat).getD (F.length + i) 0 := by
   simp only [List.getD, List.getElem?_take]
   rw [if_pos (by omega)]
  rw [e, this, h4]
  simp [List.getD, List.getElem?_append_right (show F.length ≤ F.length + i by omega)]
theorem get_torn (k s : Int) (zs : List Int) (hf : fitsR k s zs.length) (w : Nat) (hw : 8 * w + 8 ≤ (putL k s zs).length) (t : List Int) (ht : t.length = 8) (m : Nat) (hm : (putL k s zs).length ≤ 8 * w + 8 + m)
    (hne : ((putL k s zs).take (8 * w) ++ t ++ List.replicate m 255).take (putL k s zs).length ≠ putL k s zs) :
    getL ((putL k s zs).take (8 * w) ++ t ++ List.replicate m 255) = none := by
 have hlen := putL_len k s zs hf
 have hco := putL_cons k s zs [] hf
 rw [List.append_nil] at hco
 have h5 := hf.2.2.2.2
 have hs : sizeZ zs.length = 16 + ((zs.length : Int) + 7) / 8 * 8 := if_neg (by omega)
 have hn : ((zs.length : Int) % 256) + ((zs.length : Int) / 256) * 256 = zs.length := by omega
 have hq : ((s.toNat : Int) % 256) + ((s.toNat : Int) / 256 % 256) * 256 + ((s.toNat : Int) / 65536 % 256) * 65536 + ((s.toNat : Int) / 16777216) * 16777216 = s := by
  obtain ⟨f1, f2, f3, f4, f5⟩ := hf; omega
 have hA : ((putL k s zs).take (8 * w)).length = 8 * w := by rw [List.length_take]; omega
 have hlow : ∀ i, i < 8 * w → ((putL k s zs).take (8 * w) ++ t ++ List.replicate m 255).getD i 0 = (putL k s zs).getD i 0 := by
  intro i hi
  simp only [List.getD]
  rw [List.getElem?_append_left (by rw [List.length_append]; omega), List.getElem?_append_left (by omega), List.getElem?_take, if_pos hi]
 have hhigh : ∀ i, 8 * w + 8 ≤ i → i < 8 * w + 8 + m → ((putL k s zs).take (8 * w) ++ t ++ List.replicate m 255).getD i 0 = 255 := by
  intro i hi hi2
  simp only [List.getD]
  rw [List.getElem?_append_right (by rw [List.length_append]; omega), List.getElem?_replicate, if_pos (by rw [List.length_append]; omega)]
  rfl
 have hXl : ((putL k s zs).take (8 * w) ++ t ++ List.replicate m 255).length = 8 * w + 8 + m := by
  rw [List.length_append, List.length_append, hA, ht, List.length_replicate]
 have hdr : ((putL k s zs).take (8 * w) ++ t ++ List.replicate m 255) = (putL k s zs).take (8 * w) ++ (t ++ List.replicate m 255) := List.append_assoc _ _ _
 generalize hX : (putL k s zs).take (8 * w) ++ t ++ List.replicate m 255 = X at *
 have hL8 : ∃ q : Nat, (putL k s zs).length = 8 * q := ⟨2 + (zs.length + 7) / 8, by omega⟩
 obtain ⟨q, hq8⟩ := hL8
 by_cases hw0 : w = 0
 ·subst hw0
  refine get_ff fun n h1 h2 h3 i hi => hhigh _ (by omega) (by omega)
 ·have g0 : X.getD 0 0 = k := by rw [hlow 0 (by omega), hco]; rfl
  have g2 : X.getD 2 0 = (zs.length : Int) % 256 := by rw [hlow 2 (by omega), hco]; rfl
  have g3 : X.getD 3 0 = (zs.length : Int) / 256 := by rw [hlow 3 (by omega), hco]; rfl
  by_cases hlast : 8 * w + 8 < (putL k s zs).length
  ·refine get_ff fun n h1 h2 h3 i hi => ?_
   rw [g2, g3, hn] at h1
   exact hhigh _ (by omega) (by omega)
  ·have g4 : X.getD 4 0 = (s.toNat : Int) % 256 := by rw [hlow 4 (by omega), hco]; rfl
   have g5 : X.getD 5 0 = (s.toNat : Int) / 256 % 256 := by rw [hlow 5 (by omega), hco]; rfl
   have g6 : X.getD 6 0 = (s.toNat : Int) / 65536 % 256 := by rw [hlow 6 (by omega), hco]; rfl
   have g7 : X.getD 7 0 = (s.toNat : Int) / 16777216 := by rw [hlow 7 (by omega), hco]; rfl
   have g8 : (X.drop 8).take zs.length = zs := by
    have e1 : (X.drop 8).take zs.length = ((putL k s zs).drop 8).take zs.length := by
     rw [hdr, List.drop_append_of_le_length (by rw [hA]; omega), List.take_append_of_le_length (by rw [List.length_drop, hA]; omega), List.drop_take, List.take_take, Nat.min_eq_left (by omega)]
    rw [e1, hco]; simp
   unfold getL
   rw [if_neg (by rw [hXl]; omega)]
   simp only [g0, g2, g3, g4, g5, g6, g7, hn, hq, Int.toNat_natCast, g8]
   rw [if_neg (by rw [hXl]; omega), if_neg]
   rw [← hlen, Int.toNat_natCast]
   exact fun e => hne e.symm
open Go.RowKit
theorem blank_rep (n : Nat) : blankB (List.replicate n 255) = true := by
 unfold blankB
 refine decide_eq_true fun i hi => ?_
 rw [List.length_replicate] at hi
 simp [List.getD, hi]
def blk (n : Nat) : List Int := List.replicate n 255
theorem keep_cmp {s : FS} {n e : Nat} {c : Int} {l : List Rec} {T : List Int} (g : FG s n) (hd : s.dark = false) (h : Keep s e c l T) (he : e + 1 ≤ 4294967295) (recs : List Rec) (hb : ∀ r ∈ recs, Byt r.b) :
    (packF [] (numR 0 recs) = none ∧ cmpF s (keptJ e c l T) recs = (s, keptJ e c l T, 1)) ∨
    (∃ s', packF [] (numR 0 recs) = some (pkL (numR 0 recs)) ∧ (∀ r ∈ numR 0 recs, GR r) ∧ (pkL (numR 0 recs)).length ≤ 1008 ∧ FG s' n ∧
      ((cmpF s (keptJ e c l T) recs = (s', keptJ (e + 1) (nextZ c) (numR 0 recs) (blk (1008 - (pkL (numR 0 recs)).length)), 0) ∧ s'.dark = false ∧ Keep s' (e + 1) (nextZ c) (numR 0 recs) (blk (1008 - (pkL (numR 0 recs)).length)) ∧ (s.left < 0 ↔ s'.left < 0) ∧
          s'.er = (if blankB (secB s.b (nextZ c).toNat) = true then s.er else s.er.set (nextZ c).toNat (s.er.getD (nextZ c).toNat 0 + 1)) ∧ (∀ o, o < n → o ≠ (nextZ c).toNat → secB s'.b o = secB s.b o)) ∨
       (cmpF s (keptJ e c l T) recs = (s', { keptJ e c l T with err := 5 }, 5) ∧ 0 ≤ s.left ∧ (Keep s'.bootF e c l T ∨ Keep s'.bootF (e + 1) (nextZ c) (numR 0 recs) (blk (1008 - (pkL (numR 0 recs)).length)))))) := by
  have bn : ∀ (rs : List Rec) (i : Nat), (∀ r ∈ rs, Byt r.b) → ∀ r ∈ numR i rs, Byt r.b := by
    intro rs
    induction rs with
    | nil => intro i h r hr; cases hr
    | cons x xs ih =>
      intro i h r hr
      rcases List.mem_cons.1 hr with rfl | hr
      · exact h x List.mem_cons_self
      · exact ih (i + 1) (fun y hy => h y (List.mem_cons_of_mem _ hy)) r hr
  have jerr : (keptJ e c l T).err = 0 := by unfold keptJ; split <;> rfl
  have jep : (keptJ e c l T).epoch = e := by unfold keptJ; split <;> rfl
  have jcur : (keptJ e c l T).cur = c := by unfold keptJ; split <;> rfl
  have nz : nextZ c = 0 ∨ nextZ c = 1 := by unfold nextZ; split <;> simp
  cases hp : packF [] (numR 0 recs) with
  | none =>
    refine .inl ⟨rfl, ?_⟩
    unfold cmpF
    rw [if_neg (by rw [jerr]; decide), if_neg (by rw [jep]; omega), hp]
  | some b =>
    obtain ⟨hb1, hb2⟩ := packF_some _ _ _ hp
    rw [List.nil_append] at hb1
    have hlen := packF_len _ _ _ (by decide) hp
    subst hb1
    have hgr : ∀ r ∈ numR 0 recs, GR r := fun r hr => ⟨(hb2 r hr).1, (hb2 r hr).2, bn recs 0 hb r hr⟩
    obtain ⟨F, out⟩ := Keep.lay g hd h he hgr hlen
    have hc : cmpF s (keptJ e c l T) recs = if (layF s (nextZ c) e (pkL (numR 0 recs))).2 ≠ 0 then ((layF s (nextZ c) e (pkL (numR 0 recs))).1, { keptJ e c l T with err := (layF s (nextZ c) e (pkL (numR 0 recs))).2 }, (layF s (nextZ c) e (pkL (numR 0 recs))).2)
      else ((layF s (nextZ c) e (pkL (numR 0 recs))).1, ⟨numR 0 recs, e + 1, nextZ c, 16 + (pkL (numR 0 recs)).length, false, 0⟩, 0) := by
      unfold cmpF
      rw [if_neg (by rw [jerr]; decide), if_neg (by rw [jep]; omega), hp]
      simp only [jep, jcur]
    refine .inr ⟨(layF s (nextZ c) e (pkL (numR 0 recs))).1, rfl, hgr, hlen, F, ?_⟩
    rcases out with ⟨a1, a2, a3, a4, a5, a6⟩ | ⟨a1, a2, a3⟩
    · refine .inl ⟨?_, a2, a3, a4, a5, a6⟩
      rw [hc, if_neg (by rw [a1]; decide)]
      unfold keptJ blk
      rw [if_neg (by omega), blank_rep]
      rfl
    · refine .inr ⟨?_, a2, a3⟩
      rw [hc, if_pos (by rw [a1]; decide), a1]
theorem SecH.room {zs : List Int} {e : Nat} {l : List Rec} {T : List Int} (h : SecH zs e l T) (hT : blankB T = true) : T = blk (1008 - (pkL l).length) := by
 have h1 := blankB_eq hT
 have h2 := h.ll.2
 rw [show 1008 - (pkL l).length = T.length by omega]
 exact h1
theorem keep_app {s : FS} {n e : Nat} {c : Int} {l : List Rec} {T : List Int} (g : FG s n) (hd : s.dark = false) (h : Keep s e c l T) (kind : Int) (body : List Int) (hb : Byt body) :
    ((kind = 1 ∨ ¬ fitsR kind ((l.length : Int) + 1) body.length) ∧ appF s (keptJ e c l T) kind body = (s, keptJ e c l T, 1)) ∨
    (GR ⟨kind, (l.length : Int) + 1, body⟩ ∧ (keptJ e c l T).room < ((putL kind ((l.length : Int) + 1) body).length : Int) ∧ appF s (keptJ e c l T) kind body = (s, keptJ e c l T, 14)) ∨
    (∃ s', GR ⟨kind, (l.length : Int) + 1, body⟩ ∧ ((putL kind ((l.length : Int) + 1) body).length : Int) ≤ (keptJ e c l T).room ∧ T = blk (1008 - (pkL l).length) ∧ (pkL (l ++ [⟨kind, (l.length : Int) + 1, body⟩])).length ≤ 1008 ∧ FG s' n ∧
      ((appF s (keptJ e c l T) kind body = (s', keptJ e c (l ++ [⟨kind, (l.length : Int) + 1, body⟩]) (blk (1008 - (pkL (l ++ [⟨kind, (l.length : Int) + 1, body⟩])).length)), 0) ∧ s'.dark = false ∧ Keep s' e c (l ++ [⟨kind, (l.length : Int) + 1, body⟩]) (blk (1008 - (pkL (l ++ [⟨kind, (l.length : Int) + 1, body⟩])).length)) ∧ (s.left < 0 ↔ s'.left < 0) ∧ s'.er = s.er) ∨
       (appF s (keptJ e c l T) kind body = (s', { keptJ e c l T with err := 5 }, 5) ∧ 0 ≤ s.left ∧ ((∃ T', Keep s'.bootF e c l T') ∨ Keep s'.bootF e c (l ++ [⟨kind, (l.length : Int) + 1, body⟩]) (blk (1008 - (pkL (l ++ [⟨kind, (l.length : Int) + 1, body⟩])).length)))))) := by
  obtain ⟨r, hr⟩ : ∃ r : Rec, (⟨kind, (l.length : Int) + 1, body⟩ : Rec) = r := ⟨_, rfl⟩
  have hput : putL kind ((l.length : Int) + 1) body = r.put := by rw [← hr]; rfl
  rw [hr, hput]
  have jerr : (keptJ e c l T).err = 0 := by unfold keptJ; split <;> rfl
  have jl : (keptJ e c l T).l = l := by
    rcases h with ⟨rfl, rfl, rfl, rfl, -⟩ | ⟨t, -, rfl, -⟩
    · rfl
    · unfold keptJ; rw [if_neg (by omega)]
  by_cases hk : kind = 1 ∨ ¬ fitsR kind ((l.length : Int) + 1) body.length
  · left
    refine ⟨hk, ?_⟩
    unfold appF
    rw [jl, if_neg (by rw [jerr]; decide), if_pos]
    rcases hk with hk | hk
    · exact .inl hk
    · exact .inr (by unfold putL; rw [if_neg hk]; rfl)
  right
  have gr : GR r := by rw [← hr]; exact ⟨fun h => hk (.inl h), Classical.byContradiction fun h => hk (.inr h), hb⟩
  have hge := gr.ge
  have happ : appF s (keptJ e c l T) kind body = if (keptJ e c l T).room < (r.put.length : Int) then (s, keptJ e c l T, 14)
      else if (s.gprog 0 2 ((keptJ e c l T).cur * 1024 + (keptJ e c l T).used) r.put).2 ≠ 0 then
        ((s.gprog 0 2 ((keptJ e c l T).cur * 1024 + (keptJ e c l T).used) r.put).1, { keptJ e c l T with err := (s.gprog 0 2 ((keptJ e c l T).cur * 1024 + (keptJ e c l T).used) r.put).2 }, (s.gprog 0 2 ((keptJ e c l T).cur * 1024 + (keptJ e c l T).used) r.put).2)
      else ((s.gprog 0 2 ((keptJ e c l T).cur * 1024 + (keptJ e c l T).used) r.put).1, { keptJ e c l T with err := 0, l := l ++ [r], used := (keptJ e c l T).used + r.put.length }, 0) := by
    unfold appF
    rw [jl, hput, hr, if_neg (by rw [jerr]; decide), if_neg (by rintro (h1 | h1); exact hk (.inl h1); omega)]
    clear h
    revert jerr jl
    generalize keptJ e c l T = J
    intro jerr jl
    obtain ⟨J1, J2, J3, J4, J5, J6⟩ := J
    have jl : J1 = l := jl
    have jerr : J6 = 0 := jerr
    rw [jl, jerr]
  by_cases hroom : (keptJ e c l T).room < (r.put.length : Int)
  · exact .inl ⟨gr, hroom, by rw [happ, if_pos hroom]⟩
  right
  rw [if_neg hroom] at happ
  rcases h with ⟨rfl, rfl, rfl, rfl, -⟩ | ⟨t, ht, rfl, hs, ho⟩
  · exact absurd (show (0 : Int) < (r.put.length : Int) by omega) hroom
  have kj : keptJ e (t : Int) l T = ⟨l, e, t, 16 + (pkL l).length, !blankB T, 0⟩ := by unfold keptJ; rw [if_neg (by omega)]
  have hT : blankB T = true := by
    by_cases q : blankB T = true
    · exact q
    · have q : blankB T = false := by simpa using q
      have : (keptJ e (t : Int) l T).room = 0 := by rw [kj, q]; rfl
      rw [this] at hroom
      omega
  have hTe := hs.room hT
  have hrm : (keptJ e (t : Int) l T).room = 1024 - ((16 + (pkL l).length : Nat) : Int) := by
    rw [kj, hT]
    unfold JS.room
    rw [if_neg]
    rintro (h1 | h1)
    · cases h1
    · have h1 : (t : Int) = -1 := h1; omega
  have hll := hs.ll
  have hfit : (pkL l).length + r.put.length ≤ 1008 := by rw [hrm] at hroom; omega
  have hpk : (pkL (l ++ [r])).length = (pkL l).length + r.put.length := by rw [pkL_append, List.length_append]; simp [pkL]
  have hp8 := (pkL_len l hs.gr).2
  have htn : t < n := Nat.lt_of_lt_of_le ht g.n2
  have hon : 1 - t < n := by have := g.n2; omega
  have hhd : (epoB e ++ pkL l).length = 16 + (pkL l).length := by rw [List.length_append, epoB_len hs.e2]
  have hzs : secB s.b t = (epoB e ++ pkL l) ++ blk (1008 - (pkL l).length) := by rw [hs.eq, hTe, List.append_assoc]
  have can : canN (((secB s.b t).drop (16 + (pkL l).length)).take r.put.length) r.put = true := by
    rw [hzs, List.drop_left' hhd]
    unfold blk
    rw [rep_take _ _ (by omega)]
    exact canN_ff _ (putL_byt gr.byt)
  have eP : s.gprog 0 2 ((keptJ e (t : Int) l T).cur * 1024 + (keptJ e (t : Int) l T).used) r.put = s.gprog 0 2 ((t : Int) * 1024 + ((16 + (pkL l).length : Nat) : Int)) r.put := by rw [kj]
  rw [eP] at happ
  have spl : ∀ X : List Int, (pkL l).length + X.length ≤ 1008 → splice (secB s.b t) (16 + (pkL l).length) X = epoB e ++ (pkL l ++ (X ++ blk (1008 - (pkL l).length - X.length))) := fun X hX => by
    rw [hzs]
    unfold splice
    rw [List.take_left' hhd, ← List.drop_drop, List.drop_left' hhd]
    unfold blk
    rw [rep_drop, List.append_assoc]
  rcases gprog_out g hd ht (show 16 + (pkL l).length + r.put.length ≤ 1024 by omega) (by omega) hge.2 (putL_byt gr.byt) can with ⟨a1, a2, a3, a4, a5, a6⟩ | ⟨i, hi, a1, a2, a3, a5, a6⟩
  · refine ⟨_, gr, by omega, hTe, by omega, a3.g, .inl ⟨?_, a2, ?_, a6, a5⟩⟩
    · rw [happ, if_neg (by rw [a1]; decide), kj, hT]
      unfold keptJ blk
      rw [if_neg (by omega), blank_rep, hpk, Nat.add_assoc]
    · refine .inr ⟨t, ht, rfl, ⟨?_, hs.e1, hs.e2, fun x hx => ?_, getL_ff _, secB_len a3.g.bl htn⟩, by rw [a3.o _ hon (by omega)]; exact ho⟩
      · rw [a4, spl _ hfit, hpk, pkL_append, Nat.sub_sub]
        simp [pkL]
      · rcases List.mem_append.1 hx with hx | hx
        · exact hs.gr x hx
        · rw [List.mem_singleton.1 hx]; exact gr
  · refine ⟨_, gr, by omega, hTe, by omega, a3.g, .inr ⟨?_, a5, ?_⟩⟩
    · rw [happ, if_pos (by rw [a1]; decide), a1]
    · have hi8 : 8 * i + 8 ≤ r.put.length := by omega
      have hwl : ((r.put.drop (8 * i)).take 8).length = 8 := by rw [List.length_take, List.length_drop]; omega
      have hdd : ((secB s.b t).drop (16 + (pkL l).length + 8 * i)).take 8 = List.replicate 8 255 := by
        rw [hzs, ← List.drop_drop, List.drop_left' hhd]
        unfold blk
        rw [rep_drop, rep_take _ _ (by omega)]
      have hcan8 : canN (List.replicate 8 255) ((r.put.drop (8 * i)).take 8) = true := by
        have := canN_ff ((r.put.drop (8 * i)).take 8) (fun z hz => putL_byt gr.byt z (List.mem_of_mem_drop (List.mem_of_mem_take hz)))
        rwa [hwl] at this
      rw [hdd] at a6
      obtain ⟨tn, htn2⟩ : ∃ x, tornN (List.replicate 8 255) ((r.put.drop (8 * i)).take 8) s.pick = x := ⟨_, rfl⟩
      have htl : tn.length = 8 := by rw [← htn2]; unfold tornN; rw [if_pos hcan8, tornTo_length, hwl]
      rw [htn2] at a6
      have hXl : (r.put.take (8 * i) ++ tn).length = 8 * i + 8 := by rw [List.length_append, htl, List.length_take]; omega
      rw [spl _ (by rw [hXl]; omega), hXl] at a6
      have hb : (s.gprog 0 2 ((t : Int) * 1024 + ((16 + (pkL l).length : Nat) : Int)) r.put).1.bootF.b = (s.gprog 0 2 ((t : Int) * 1024 + ((16 + (pkL l).length : Nat) : Int)) r.put).1.b := rfl
      have hoo : LowS (e - 1) (secB (s.gprog 0 2 ((t : Int) * 1024 + ((16 + (pkL l).length : Nat) : Int)) r.put).1.bootF.b (1 - t)) := by rw [hb, a3.o _ hon (by omega)]; exact ho
      obtain ⟨T', hT'⟩ : ∃ x, r.put.take (8 * i) ++ tn ++ blk (1008 - (pkL l).length - (8 * i + 8)) = x := ⟨_, rfl⟩
      have hsec : secB (s.gprog 0 2 ((t : Int) * 1024 + ((16 + (pkL l).length : Nat) : Int)) r.put).1.bootF.b t = epoB e ++ (pkL l ++ T') := by rw [hb, a6, hT']
      by_cases hw : T'.take r.put.length = r.put
      · right
        have hT2 : T' = r.put ++ blk (1008 - (pkL (l ++ [r])).length) := by
          have hl' : T'.length = 1008 - (pkL l).length := by rw [← hT', List.length_append, hXl]; unfold blk; rw [List.length_replicate]; omega
          have hrest : T'.drop r.put.length = blk (1008 - (pkL (l ++ [r])).length) := by
            rw [← hT', hpk]
            unfold blk
            rw [show r.put.length = (8 * i + 8) + (r.put.length - (8 * i + 8)) by omega, ← List.drop_drop, List.drop_left' hXl, rep_drop]
            congr 1; omega
          rw [← List.take_append_drop r.put.length T', hw, hrest]
        refine .inr ⟨t, ht, rfl, ⟨?_, hs.e1, hs.e2, fun x hx => ?_, getL_ff _, secB_len a3.g.bl htn⟩, hoo⟩
        · rw [hsec, hT2, pkL_append]
          simp [pkL]
        · rcases List.mem_append.1 hx with hx | hx
          · exact hs.gr x hx
          · rw [List.mem_singleton.1 hx]; exact gr
      · left
        refine ⟨T', .inr ⟨t, ht, rfl, ⟨hsec, hs.e1, hs.e2, hs.gr, ?_, secB_len a3.g.bl htn⟩, hoo⟩⟩
        have := get_torn r.k r.s r.b gr.fits i hi8 tn htl (1008 - (pkL l).length - (8 * i + 8)) (by show r.put.length ≤ _; omega)
        rw [← hT']
        exact this (by show (r.put.take (8 * i) ++ tn ++ blk (1008 - (pkL l).length - (8 * i + 8))).take r.put.length ≠ r.put; rw [hT']; exact hw)
open Go.RowKit
structure JRm (s : FS) (m : Nat) : Prop where
  st : 0 ≤ s.steps ∧ s.steps + m ≤ 1000000000
  er : ∀ i, 0 ≤ s.er.getD i 0 ∧ s.er.getD i 0 + m ≤ 1000000000
theorem JRm.less {s : FS} {m k : Nat} (h : JRm s m) (hk : k ≤ m) : JRm s k := ⟨by have := h.st; omega, fun i => by have := h.er i; omega⟩
theorem JRm.room {s : FS} {m : Nat} (h : JRm s m) (k : Nat) (hk : k ≤ 900000000000) : Room s k := ⟨by have := h.st; omega, fun i => by have := h.er i; omega⟩
theorem JRm.prog {s : FS} {m : Nat} {zs : List Int} (h : JRm s (m + zs.length)) (f c : Nat) (a : Int) : JRm (s.gprog f c a zs).1 m := by
 have := gprog_more s f c a zs
 have h1 := h.st
 exact ⟨by omega, fun i => by rw [this.1]; have := h.er i; omega⟩
theorem JRm.erase {s : FS} {m : Nat} (h : JRm s (m + 1)) (f c : Nat) (k : Int) : JRm (s.gerase f c k).1 m := by
 exact tl147 _
theorem JRm.lay {s : FS} {m : Nat} (h : JRm s (m + 1625)) (k : Int) (e : Nat) (b : List Int) (hb : b.length ≤ 1008) : JRm (layF s k e b).1 m := by
 have h1 : JRm (layE s k).1 (m + 1608) := by
  unfold layE
  split
  ·exact JRm.erase (h.less (by omega)) _ _ _
  ·exact h.less (by omega)
 have h2 : JRm (layP (layE s k) k b).1 (m + 600) := by
  unfold layP
  split
  ·exact JRm.prog (h1.less (by omega)) _ _ _
  ·exact h1.less (by omega)
 unfold layF layH
 split
 ·exact JRm.prog (h2.less (by have := putL_le 1 ((e : Int) + 1) []; omega)) _ _ _
 ·exact h2.less (by omega)
theorem JRm.cmp {s : FS} {m : Nat} (h : JRm s (m + 1625)) (j : JS) (recs : List Rec) : JRm (cmpF s j recs).1 m := by
 unfold cmpF
 split
 ·exact h.less (by omega)
 ·split
  ·exact h.less (by omega)
  ·split
   ·exact h.less (by omega)
   ·rename_i b hb
    have hl := packF_len _ _ _ (by decide) hb
    split
    ·exact h.lay _ _ _ hl
    ·exact h.lay _ _ _ hl
theorem JRm.app {s : FS} {m : Nat} (h : JRm s (m + 1625)) (j : JS) (kind : Int) (body : List Int) : JRm (appF s j kind body).1 m := by
 have hp := putL_le kind ((j.l.length : Int) + 1) body
 unfold appF
 split
 ·exact h.less (by omega)
 ·split
  ·exact h.less (by omega)
  ·split
   ·exact h.less (by omega)
   ·split
    ·exact JRm.prog (h.less (by omega)) _ _ _
    ·exact JRm.prog (h.less (by omega)) _ _ _
theorem JRm.boot {s : FS} {m : Nat} (h : JRm s m) : JRm s.bootF m := ⟨h.st, h.er⟩
theorem JRm.arm {s : FS} {m : Nat} (h : JRm s m) (a : Int) (ps : List Int) : JRm (s.armF a ps) m := by
 unfold FS.armF
 split
 ·exact ⟨h.st, h.er⟩
 ·exact ⟨h.st, h.er⟩
theorem Keep.ok {s : FS} {e : Nat} {c : Int} {l : List Rec} {T : List Int} (h : Keep s e c l T) : JOk (keptJ e c l T) := by
 rcases h with ⟨rfl, rfl, rfl, rfl, -⟩ | ⟨t, ht, rfl, hs, -⟩
 ·exact ⟨by decide, (fun r hr => by cases hr), by decide, .inl rfl, by decide⟩
 ·have hl := hs.ll
  unfold keptJ
  rw [if_neg (by omega)]
  refine ⟨?_, fun r hr => ?_, ?_, ?_, hs.e2⟩
  ·show l.length ≤ 100000; omega
  ·have h5 := (hs.gr r hr).fits.2.2.2.2
   show r.b.length ≤ 512; omega
  ·show 16 + (pkL l).length ≤ 1024; omega
  ·show ((t : Int) = -1 ∨ (t : Int) = 0 ∨ (t : Int) = 1); omega
structure Live (s : FS) (n e : Nat) (c : Int) (l : List Rec) (T : List Int) (m : Nat) : Prop where
  g : FG s n
  dark : s.dark = false
  left : s.left < 0
  keep : Keep s e c l T
  rm : JRm s (1625 * m)
theorem newF_secB (n k : Nat) (hn : n ≤ 256) (hk : k < n) : secB (newF (n : Int)).b k = List.replicate 1024 255 := by
 unfold secB newF
 have e : (max 1 (min (n : Int) 256)).toNat = n := by omega
 simp only [e]
 rw [rep_drop, rep_take _ _ (by omega)]
theorem Live.new (n : Nat) (h2 : 2 ≤ n) (hn : n ≤ 256) : Live (newF (n : Int)) n 0 (-1) [] [] 100 := by
 have e : (max 1 (min (n : Int) 256)).toNat = n := by omega
 refine ⟨⟨?_, ?_, ?_, (fun z hz => by cases hz), h2⟩, rfl, (show (-1 : Int) < 0 by decide), .inl ⟨rfl, rfl, rfl, rfl, ?_, ?_⟩, ⟨?_, fun i => ?_⟩⟩
 ·unfold newF; simp only [e, List.length_replicate]
 ·unfold newF; simp only [e, List.length_replicate]
 ·exact ff_byt _
 ·rw [newF_secB n 0 hn (by omega)]; exact LowS.blank _
 ·rw [newF_secB n 1 hn (by omega)]; exact LowS.blank _
 ·show (0 : Int) ≤ 0 ∧ (0 : Int) + ((1625 * 100 : Nat) : Int) ≤ 1000000000
  decide
 ·have : (newF (n : Int)).er.getD i 0 = 0 := by
   unfold newF
   by_cases hi : i < (max 1 (min (n : Int) 256)).toNat
   ·simp [List.getD, hi]
   ·simp [List.getD, hi]
  rw [this]; decide
theorem Live.cmp {s : FS} {n e : Nat} {c : Int} {l : List Rec} {T : List Int} {m : Nat} (h : Live s n e c l T (m + 1)) (he : e + 1 ≤ 4294967295) (recs : List Rec) (hb : ∀ r ∈ recs, Byt r.b) :
    (packF [] (numR 0 recs) = none ∧ cmpF s (keptJ e c l T) recs = (s, keptJ e c l T, 1)) ∨
    (∃ s', packF [] (numR 0 recs) = some (pkL (numR 0 recs)) ∧ (∀ r ∈ numR 0 recs, GR r) ∧ (pkL (numR 0 recs)).length ≤ 1008 ∧
      cmpF s (keptJ e c l T) recs = (s', keptJ (e + 1) (nextZ c) (numR 0 recs) (blk (1008 - (pkL (numR 0 recs)).length)), 0) ∧
      Live s' n (e + 1) (nextZ c) (numR 0 recs) (blk (1008 - (pkL (numR 0 recs)).length)) m ∧
      s'.er = (if blankB (secB s.b (nextZ c).toNat) = true then s.er else s.er.set (nextZ c).toNat (s.er.getD (nextZ c).toNat 0 + 1)) ∧ (∀ o, o < n → o ≠ (nextZ c).toNat → secB s'.b o = secB s.b o)) := by
  rcases keep_cmp h.g h.dark h.keep he recs hb with a | ⟨s', a1, a2, a3, a4, ⟨b1, b2, b3, b4, b5, b6⟩ | ⟨-, b2, -⟩⟩
  · exact .inl a
  · have hr := JRm.cmp (m := 1625 * m) (h.rm.less (by omega)) (keptJ e c l T) recs
    rw [b1] at hr
    exact .inr ⟨s', a1, a2, a3, b1, ⟨a4, b2, b4.1 h.left, b3, hr⟩, b5, b6⟩
  · have := h.left; omega
theorem Live.app {s : FS} {n e : Nat} {c : Int} {l : List Rec} {T : List Int} {m : Nat} (h : Live s n e c l T (m + 1)) (kind : Int) (body : List Int) (hb : Byt body) :
    ((kind = 1 ∨ ¬ fitsR kind ((l.length : Int) + 1) body.length) ∧ appF s (keptJ e c l T) kind body = (s, keptJ e c l T, 1)) ∨
    (GR ⟨kind, (l.length : Int) + 1, body⟩ ∧ (keptJ e c l T).room < ((putL kind ((l.length : Int) + 1) body).length : Int) ∧ appF s (keptJ e c l T) kind body = (s, keptJ e c l T, 14)) ∨
    (∃ s', GR ⟨kind, (l.length : Int) + 1, body⟩ ∧ ((putL kind ((l.length : Int) + 1) body).length : Int) ≤ (keptJ e c l T).room ∧ T = blk (1008 - (pkL l).length) ∧ (pkL (l ++ [⟨kind, (l.length : Int) + 1, body⟩])).length ≤ 1008 ∧
      appF s (keptJ e c l T) kind body = (s', keptJ e c (l ++ [⟨kind, (l.length : Int) + 1, body⟩]) (blk (1008 - (pkL (l ++ [⟨kind, (l.length : Int) + 1, body⟩])).length)), 0) ∧
      Live s' n e c (l ++ [⟨kind, (l.length : Int) + 1, body⟩]) (blk (1008 - (pkL (l ++ [⟨kind, (l.length : Int) + 1, body⟩])).length)) m ∧ s'.er = s.er) := by
  rcases keep_app h.g h.dark h.keep kind body hb with a | a | ⟨s', a1, a2, a3, a4, a5, ⟨b1, b2, b3, b4, b5⟩ | ⟨-, b2, -⟩⟩
  · exact .inl a
  · exact .inr (.inl a)
  · have hr := JRm.app (m := 1625 * m) (h.rm.less (by omega)) (keptJ e c l T) kind body
    rw [b1] at hr
    exact .inr (.inr ⟨s', a1, a2, a3, a4, b1, ⟨a5, b2, b4.1 h.left, b3, hr⟩, b5⟩)
  · have := h.left; omega
open Go.RowKit
structure LJ (W w : World) (B q jb : Nat) (X : JX) (s : FS) (j : JS) : Prop where
  at_ : JAt w B q X s j
  jbe : X.jb = jb
  keeps : Keeps None W w
  le : W.heap.size ≤ B
theorem LJ.later {W w w' : World} {B q jb : Nat} {X : JX} {s : FS} {j : JS} (h : LJ W w B q jb X s j) (k : Keeps None w w') : LJ W w' B q jb X s j := ⟨h.at_.later k, h.jbe, h.keeps.trans k (fun _ h => h) (fun _ _ h => h), h.le⟩
theorem LJ.alloc {W w : World} {B q jb : Nat} {X : JX} {s : FS} {j : JS} (h : LJ W w B q jb X s j) (o : Obj) : LJ W (w.alloc o) B q jb X s j := h.later ((Keeps.refl None w).alloc o)
theorem LJ.next {W w w' : World} {B q jb : Nat} {X X' : JX} {s s' : FS} {j j' : JS} (h : LJ W w B q jb X s j) (t : JTurn w w' B q X X' s' j') : LJ W w' B q jb X' s' j' :=
  ⟨t.at_, t.jb.trans h.jbe, h.keeps.trans t.keeps (fun _ h => h) (fun k hk hS => absurd (h.at_.low k hS) (by have := h.le; omega)), h.le⟩
theorem LJ.lf {W w : World} {B q jb : Nat} {X : JX} {s : FS} {j : JS} (h : LJ W w B q jb X s j) : LF W w B q X.L s := ⟨h.at_.f, h.keeps, h.le, h.at_.hq⟩
structure Row (w : World) (X : JX) (A : Option Addr) (n cap : Nat) (rs : List RV) : Prop where
  r : Rws w A n cap rs
  ap : ∀ b off, 0 < n → A = some ⟨b, off, none⟩ → ¬ X.S b
  bd : Bds w (fun b => ¬ X.S b) rs
theorem Row.copied {w w' : World} {B q : Nat} {X : JX} {s : FS} {j : JS} {v : Value} {rs : List RV} (h : JAt w B q X s j) (c : Copied w w' v rs) : ∃ A cap, v = .slice A rs.length cap ∧ Row w' X A rs.length cap rs := by
 obtain ⟨A, cap, hv, hr, ho⟩ := c.o.shape
 refine ⟨A, cap, hv, hr, fun b off hn e hS => ?_, c.bd.mono (fun b hb _ hS => ?_)⟩
 ·have h1 := h.lt b hS
  have h2 := (c.o.block (ho b off e).1).1
  omega
 ·have h1 := h.lt b hS
  omega
def LJDone (W w : World) (B q jb : Nat) (X : JX) (r : FS × JS × Int) (e : Ending) (w' : World) : Prop := e = .returned (.int .i64 r.2.2) ∧ ∃ X', LJ W w' B q jb X' r.1 r.2.1 ∧ JTurn w w' B q X X' r.1 r.2.1
open Go.RowKit
section
variable {W w : World} {B q jb : Nat} {X : JX} {s : FS} {j : JS} {n e : Nat} {c : Int} {l : List Rec} {T : List Int} {m : Nat}
def JAllTold (w : World) (X : JX) (l : List Rec) (e : Ending) (w' : World) : Prop := ∃ A cap rs, e = .returned (.slice A l.length cap) ∧ Row w' X A l.length cap rs ∧ rs.map RV.r = l ∧ Keeps None w w'
theorem ljall (h : LJ W w B q jb X s j) (ok : JOk j) : Calls Tryz.prog 55 #[.pointer (some ⟨jb, 0, none⟩)] w (JAllTold w X j.l) := by
 rw [← h.jbe]
 refine (jall_any B q X s j w h.at_ (by have := ok.ll; omega) (fun r hr => by have := ok.bl r hr; omega)).mono ?_
 rintro e w' ⟨v, rs', rfl, cp, hm⟩
 obtain ⟨A, cap, rfl, hr⟩ := Row.copied h.at_ cp
 have e : rs'.length = j.l.length := by rw [← hm, List.length_map]
 rw [e] at hr ⊢
 exact ⟨A, cap, rs', rfl, hr, hm, cp.k⟩
end
theorem Rws.none (w : World) : Rws w .none 0 0 [] := ⟨rfl, Nat.le_refl _, by decide, fun _ => ⟨rfl, rfl⟩, fun h => absurd h (Nat.lt_irrefl _)⟩
theorem keptJ_ge {e : Nat} {c : Int} {l : List Rec} {T : List Int} (h : c ≠ -1) : keptJ e c l T = ⟨l, e, c, 16 + (pkL l).length, !blankB T, 0⟩ := if_neg h
open Go.RowKit
theorem ljappendG {W w : World} {B q jb : Nat} {X : JX} {s : FS} {j : JS} {m : Nat} (h : LJ W w B q jb X s j) (ok : JOk j) (rm : JRm s m)
    (kind : Int) {A : Option Addr} {k cap : Nat} {body : List Int} (hb : Bs w A k cap body) (hk : k ≤ 140737488355328) :
    Calls Tryz.prog 60 #[.pointer (some ⟨jb, 0, none⟩), .int .i64 kind, .slice A k cap] w (LJDone W w B q jb X (appF s j kind body)) := by
 rw [← h.jbe]
 exact (jappend_any B q X s j kind A k cap body w h.at_ ok hb hk (by have := rm.st; omega)).mono fun e w' ⟨h1, X', t⟩ => ⟨h1, X', h.jbe ▸ h.next t, t⟩
theorem ljcompactG {W w : World} {B q jb : Nat} {X : JX} {s : FS} {j : JS} {m : Nat} (h : LJ W w B q jb X s j) (ok : JOk j) (hn : 2 ≤ s.er.length) (rm : JRm s (m + 1625))
    {A : Option Addr} {k cap : Nat} {rs : List RV} {P : Nat → Prop} (hr : Rws w A k cap rs) (hb : Bds w P rs) (hk : k ≤ 100000) (hbl : ∀ r ∈ rs, r.b.length ≤ 140737488355328) :
    Calls Tryz.prog 61 #[.pointer (some ⟨jb, 0, none⟩), .slice A k cap] w (LJDone W w B q jb X (cmpF s j (rs.map RV.r))) := by
 rw [← h.jbe]
 exact (jcompact_any B q X s j A k cap rs P w h.at_ (by have h1 := h.at_.f.el; omega) ok hr hb hk hbl (rm.room 2001 (by decide))).mono fun e w' ⟨h1, X', t⟩ => ⟨h1, X', h.jbe ▸ h.next t, t⟩
theorem ChkV.turn {w w' : World} {B q : Nat} {R : Nat → Prop} {X X' : JX} {s' : FS} {j' : JS} {A : Option Addr} {n cap : Nat} {zs : List Int} (h : ChkV w (fun b => B ≤ b ∧ ¬ X.S b ∧ R b) A n cap zs) (t : JTurn w w' B q X X' s' j') : ChkV w' (fun b => B ≤ b ∧ ¬ X'.S b ∧ R b) A n cap zs :=
  ⟨h.b.keeps t.keeps (fun b off hn _ e => (h.p b off hn e).1.2.1), fun g off hn e => ⟨⟨(h.p g off hn e).1.1, fun hS => (t.o g hS).elim (h.p g off hn e).1.2.1 (fun h2 => by have := (h.p g off hn e).2; omega), (h.p g off hn e).1.2.2⟩, Nat.lt_of_lt_of_le (h.p g off hn e).2 t.keeps.size⟩⟩
theorem JTurn.out {w w' : World} {B q lb : Nat} {X X' : JX} {s' : FS} {j' : JS} (t : JTurn w w' B q X X' s' j') (hl : ¬ X.S lb) (hw : lb < w.heap.size) : ¬ X'.S lb := fun hS => (t.o lb hS).elim hl (fun h => by omega)
theorem LJ.keepsG {W w w' : World} {B q jb : Nat} {X : JX} {s : FS} {j : JS} {S : Nat → Prop} (h : LJ W w B q jb X s j) (k : Keeps S w w') (h1 : ∀ b, X.S b → ¬ S b) (h2 : ∀ b, b < W.heap.size → ¬ S b) : LJ W w' B q jb X s j :=
  ⟨h.at_.keeps k h1, h.jbe, h.keeps.trans k (fun _ h => h) (fun b hb hs => absurd hs (h2 b hb)), h.le⟩
theorem Copied.plus {w a w' : World} {v : Value} {rs : List RV} {r : RV} (h : Copied w a v rs) (hr : Bs a r.A r.b.length r.c r.b) (hp : ∀ b, r.at_ b → b < w.heap.size) (k : Keeps (fun k => v.ownBlock = some k) a w') : Bds w' (fun _ => True) (rs ++ [r]) ∧ Keeps None w w' := by
 refine ⟨⟨fun x hx => ?_, fun x hx b hb => ⟨trivial, ?_⟩⟩, h.k.trans k (fun _ h => absurd h (fun h => h)) (fun b hb e => absurd (h.o.block e).1 (by omega))⟩
 ·rcases List.mem_append.1 hx with h1 | h1
  ·exact (h.bd.keeps k (fun b hb _ e => hb.2 e)).bs x h1
  ·rw [List.mem_singleton.1 h1]
   exact hr.keeps k (fun b off hn _ e hs => by have h2 := hp b ⟨off, by rw [hr.len]; exact hn, e⟩; have h3 := (h.o.block hs).1; omega)
 ·have h1 := k.size
  have h2 := h.k.size
  rcases List.mem_append.1 hx with h3 | h3
  ·have := (h.bd.p x h3 b hb).2; omega
  ·rw [List.mem_singleton.1 h3] at hb
   have := hp b hb; omega
theorem Bs.at_lt {w : World} {A : Option Addr} {n c : Nat} {zs : List Int} {k s : Int} (h : Bs w A n c zs) : ∀ b, (⟨k, s, A, c, zs⟩ : RV).at_ b → b < w.heap.size := by
 rintro b ⟨off, h0, e⟩
 obtain ⟨b', off', e', hlt, -⟩ := h.at_ (by rw [← h.len]; exact h0)
 rw [show A = some ⟨b, off, Option.none⟩ from e] at e'
 cases e'
 exact hlt
def St.lcs (s : St) (jb : Nat) (A : Option Addr) (n cap : Nat) : List Value := .pointer (some ⟨jb, 0, none⟩) :: s.cs A n cap
structure LG (W w : World) (B q lb jb : Nat) (X : JX) (s : FS) (j : JS) (st : St) (A : Option Addr) (n cap : Nat) : Prop where
  lj : LJ W w B q jb X s j
  l : Blk w lb (st.lcs jb A n cap) 91
  lS : ¬ X.S lb
  lB : B ≤ lb
  m : ChkV w (fun b => B ≤ b ∧ ¬ X.S b ∧ ¬ b = lb) A n cap st.k.mid
  inv : st.inv
theorem LG.later {W w w' : World} {B q lb jb : Nat} {X : JX} {s : FS} {j : JS} {st : St} {A : Option Addr} {n cap : Nat} (h : LG W w B q lb jb X s j st A n cap) (k : Keeps None w w') : LG W w' B q lb jb X s j st A n cap :=
  ⟨h.lj.later k, k.blk h.l (fun h => h), h.lS, h.lB, h.m.later k, h.inv⟩
theorem LG.turn {W w w' : World} {B q lb jb : Nat} {X X' : JX} {s s' : FS} {j j' : JS} {st : St} {A : Option Addr} {n cap : Nat} (h : LG W w B q lb jb X s j st A n cap) (t : JTurn w w' B q X X' s' j') : LG W w' B q lb jb X' s' j' st A n cap :=
  ⟨h.lj.next t, t.keeps.blk h.l h.lS, t.out h.lS h.l.lt, h.lB, h.m.turn t, h.inv⟩
def nextS (st : St) (kind : Int) (body : List Int) : St := foldS (recsS st ++ [⟨kind, 0, body⟩])
def keepF (s : FS) (j : JS) (st : St) (kind : Int) (body : List Int) : FS × JS × St × Int :=
  let a := appF s j kind body
  let r := if a.2.2 = 14 then cmpF a.1 a.2.1 (recsS (nextS st kind body)) else a
  (r.1, r.2.1, if r.2.2 = 0 then nextS st kind body else st, r.2.2)
structure LGT (lb : Nat) (X X' : JX) (w w' : World) : Prop where
  keeps : Keeps (fun b => X.S b ∨ b = lb) w w'
  o : ∀ k, X'.S k → X.S k ∨ w.heap.size ≤ k
theorem LGT.same {lb : Nat} {X : JX} {w w' : World} (k : Keeps None w w') : LGT lb X X w w' := ⟨k.mono (fun _ _ h => absurd h (fun h => h)), fun _ h => .inl h⟩
theorem LGT.ahead {lb : Nat} {X X' : JX} {w w1 w' : World} (k : Keeps None w w1) (t : LGT lb X X' w1 w') : LGT lb X X' w w' :=
  ⟨k.trans t.keeps (fun _ h => absurd h (fun h => h)) (fun _ _ h => h), fun b h => (t.o b h).imp id (fun h2 => Nat.le_trans k.size h2)⟩
theorem LGT.jturn {lb q B : Nat} {X X' : JX} {w w' : World} {s' : FS} {j' : JS} (t : JTurn w w' B q X X' s' j') : LGT lb X X' w w' := ⟨t.keeps.mono (fun _ _ h => .inl h), t.o⟩
theorem LGT.trans {lb : Nat} {X X1 X2 : JX} {w w1 w2 : World} (t : LGT lb X X1 w w1) (u : LGT lb X1 X2 w1 w2) : LGT lb X X2 w w2 :=
  ⟨t.keeps.trans u.keeps (fun _ h => h) (fun b hb h => h.elim (fun h1 => (t.o b h1).elim .inl (fun h2 => by omega)) .inr), fun b h => (u.o b h).elim (t.o b) (fun h2 => .inr (Nat.le_trans t.keeps.size h2))⟩
theorem LGT.store {lb : Nat} {X X1 : JX} {w w1 w2 : World} (t : LGT lb X X1 w w1) (k : Keeps (fun b => b = lb) w1 w2) : LGT lb X X1 w w2 :=
  ⟨t.keeps.trans k (fun _ h => h) (fun _ _ h => .inr h), t.o⟩
def MidT (A0 : Option Addr) (n0 : Nat) (A : Option Addr) (n z : Nat) : Prop := ∀ g off, 0 < n → A = some ⟨g, off, none⟩ → (0 < n0 ∧ ∃ o, A0 = some ⟨g, o, none⟩) ∨ z ≤ g
theorem MidT.refl (A : Option Addr) (n z : Nat) : MidT A n A n z := fun _ off h e => .inl ⟨h, off, e⟩
theorem MidT.lower {A0 A : Option Addr} {n0 n z z' : Nat} (h : MidT A0 n0 A n z) (hz : z' ≤ z) : MidT A0 n0 A n z' := fun g off h0 e => (h g off h0 e).imp id (fun h => Nat.le_trans hz h)
theorem MidT.new {A0 A : Option Addr} {n0 n cap z : Nat} {w : World} {P : Nat → Prop} {zs : List Int} (h : ChkV w P A n cap zs) (hP : ∀ b, P b → z ≤ b) : MidT A0 n0 A n z := fun g off h0 e => .inr (hP g (h.p g off h0 e).1)
def LGDone (W w : World) (B q lb jb : Nat) (X0 : JX) (A0 : Option Addr) (n0 : Nat) (r : FS × JS × St × Int) (e : Ending) (w' : World) : Prop :=
  e = .returned (.int .i64 r.2.2.2) ∧ ∃ X A n cap, LG W w' B q lb jb X r.1 r.2.1 r.2.2.1 A n cap ∧ LGT lb X0 X w w' ∧ MidT A0 n0 A n w.heap.size
theorem recsS_byt {st : St} (h : st.inv) : ∀ r ∈ recsS st, Byt r.b := by
 have hl : ∀ n, Byt (lowL 8 n) := fun n => lowL_byte 8 n
 have happ : ∀ {x y : List Int}, Byt x → Byt y → Byt (x ++ y) := fun hx hy z hz => (List.mem_append.1 hz).elim (hx z) (hy z)
 intro r hr
 unfold recsS at hr
 rcases List.mem_append.1 hr with h1 | h1
 ·split at h1
  ·rw [List.mem_singleton.1 h1]
   show Byt (comL st.c)
   unfold comL
   split
   ·exact happ (hl _) (happ (hl _) (happ (hl _) (happ (hl _) h.co.mb)))
   ·intro z hz; cases hz
  ·cases h1
 ·split at h1
  ·rw [List.mem_singleton.1 h1]
   show Byt (chkL st.k)
   unfold chkL
   split
   ·exact happ (hl _) (happ (hl _) (happ (hl _) (happ h.ko.ib h.ko.mb)))
   ·intro z hz; cases hz
  ·cases h1
theorem nextS_inv {st : St} (h : st.inv) (kind : Int) {body : List Int} (hb : Byt body) : (nextS st kind body).inv :=
  foldS_inv fun r hr => (List.mem_append.1 hr).elim (recsS_byt h r) (fun h1 => by rw [List.mem_singleton.1 h1]; exact hb)
theorem recsS_short {st : St} (h : st.inv) : ∀ r ∈ recsS st, r.b.length ≤ 512 := by
 intro r hr
 unfold recsS at hr
 rcases List.mem_append.1 hr with h1 | h1
 ·split at h1
  ·rename_i hp
   rw [List.mem_singleton.1 h1]
   show (comL st.c).length ≤ 512
   rw [comL_len (comL_pos.1 hp), h.co.ml]
   decide
  ·cases h1
 ·split at h1
  ·rename_i hp
   rw [List.mem_singleton.1 h1]
   show (chkL st.k).length ≤ 512
   rw [chkL_len (chkL_pos.1 hp.2) h.ko]
   decide
  ·cases h1
theorem lcs_put {s s' : St} (o : s.ok) (o' : s'.ok) (jb : Nat) (A A' : Option Addr) (n cap n' cap' : Nat) : splice (s.lcs jb A n cap) 1 (s'.cs A' n' cap') = s'.lcs jb A' n' cap' := by
 simp only [splice, St.lcs]
 rw [List.drop_eq_nil_of_le (by simp [St.cs_len o, St.cs_len o'])]
 simp
theorem tl200 (P : Prop) (h : P := by
 have TF := Lib.hid (T7.out.store k9)
 clear b9 k9
 go_wp2
 go_ret
 rw [KE2.out]
 exact ⟨by show _ = Ending.returned (.int .i64 e7); rw [q0]; rfl, X7, A3, n3, c3, GF.out, TF.out, MidT.new M7.out (fun b hb => hb.2.2.2.2)⟩) : P := h
theorem tl201 (P : Prop) (h : P := by
 have d0 : (e7 == 0) = false := by simpa using q0
 rw [if_neg q0] at KE2
 go_wp2
 go_ret
 rw [KE2.out]
 exact ⟨rfl, X7, A, n, cap, G7.out, T7.out, MidT.refl _ _ _⟩) : P := h
theorem tl202 (P : Prop) (h : P := by
 have TF := Lib.hid (T5.out.store k9)
 clear b9 k9
 go_wp2
 go_ret
 rw [KE2.out]
 exact ⟨by show _ = Ending.returned (.int .i64 e5); rw [q0]; rfl, X5, A3, n3, c3, GF.out, TF.out, MidT.new M5.out (fun b hb => hb.2.2.2.2)⟩) : P := h
theorem tl203 (P : Prop) (h : P := by
 have d0 : (e5 == 0) = false := by simpa using q0
 rw [if_neg q0] at KE2
 go_wp2
 go_ret
 rw [KE2.out]
 exact ⟨rfl, X5, A, n, cap, G5.out, T5.out, MidT.refl _ _ _⟩) : P := h
set_option maxRecDepth 100000 in
set_option maxHeartbeats 3200000 in
theorem lgkeep_any {W w : World} {B q lb jb : Nat} {X : JX} {s : FS} {j : JS} {st : St} {A : Option Addr} {n cap m : Nat} (h : LG W w B q lb jb X s j st A n cap) (ok : JOk j) (kind : Int) {bA : Option Addr} {bn bc : Nat} {body : List Int} (hb : Bs w bA bn bc body) (hbn : bn ≤ 600)
    (hbS : ∀ b off, 0 < bn → bA = some ⟨b, off, none⟩ → ¬ X.S b) (ok2 : JOk (appF s j kind body).2.1) (hel : 2 ≤ (appF s j kind body).1.er.length) (rm : JRm s (m + 3250)) :
    Calls Tryz.prog 35 #[.pointer (some ⟨lb, 0, none⟩), .int .i64 kind, .slice bA bn bc] w (LGDone W w B q lb jb X A n (keepF s j st kind body)) := by
 have G := Lib.hid h
 have OK := Lib.hid ok
 have OK2 := Lib.hid ok2
 have HEL := Lib.hid hel
 have RM := Lib.hid rm
 have RM2 := Lib.hid (JRm.app (m := m + 1625) (rm.less (by omega)) j kind body)
 have HB := Lib.hid hb
 have HLN := Lib.hid hb.len
 have HBS := Lib.hid hbS
 have hle := hb.le
 have hmx := hb.max
 have SO := Lib.hid h.inv.ok
 have NI := Lib.hid (nextS_inv h.inv kind hb.byte)
 have RC := Lib.hid (lgrecs_any st h.inv.ok A n cap _ w h.m)
 unfold St.v at RC
 have RL := recsS_len st
 have KF : Hid (keepF s j st kind body = keepF s j st kind body) := rfl
 clear h ok ok2 hel rm hb hbS
 go_enter Tryz.func35, Tryz.ntmps35
 go_wp2_with (refine wpList_load_blk (b := lb) (o := 1) (ds := st.cs A n cap) G.out.l (fun j v hv => by rw [Nat.add_comm]; exact hv) rfl rfl rfl Tryz.underlying58 rfl (by rw [St.cs_len SO.out]; exact st_size) ?_)
 go_wp2_with fail
 refine RC.out.mono ?_
 rintro e w1 ⟨v1, rs1, rfl, cp1, hm1⟩
 obtain ⟨A1, c1, rfl, r1, -⟩ := cp1.o.shape
 have l1 := r1.le
 have m1 := r1.max
 have CP1 := Lib.hid cp1
 have HM1 := Lib.hid hm1
 have G1 := Lib.hid (G.out.later cp1.k)
 have B1 := Lib.hid (HB.out.keeps cp1.k (fun _ _ _ _ _ h => h))
 have LR1 : rs1.length ≤ 2 := by have := congrArg List.length hm1; rw [List.length_map] at this; omega
 clear cp1 hm1 r1 RC
 go_wp2_with (at_builtin; refine Hid.out ?_)
 refine Lib.hid ?_
 refine wpList_append_recs (ns := [⟨kind, 0, bA, bc, body⟩]) (CP1.out.later ((Keeps.refl None w1).alloc _)).o (Rws.one _ (by
  show Blk _ _ [.int .i64 kind, .int .i64 0, .slice bA body.length bc] _
  rw [HLN.out]
  exact Blk.new w1 [.int .i64 kind, .int .i64 0, .slice bA bn bc] 95)) (by omega) (Nat.le_trans CP1.out.k.size (by simp)) (by rfl) (by rfl) (by rfl) (by rfl) (by rfl) ?_
 intro v2 w2 o2 k2 d2
 obtain ⟨bd2, kk2⟩ := Copied.plus (r := ⟨kind, 0, bA, bc, body⟩) (CP1.out.later ((Keeps.refl None w1).alloc (.cells #[.int .i64 kind, .int .i64 0, .slice bA bn bc] 95))) (by show Bs _ bA body.length bc _; rw [HLN.out]; exact B1.out.keeps ((Keeps.refl None w1).alloc _) (fun _ _ _ _ _ h => h)) HB.out.at_lt k2
 obtain ⟨A2, c2, rfl, r2, -⟩ := o2.shape
 have FD := Lib.hid (lgfold_any _ _ _ _ _ w2 r2 bd2)
 rw [List.map_append, HM1.out, show foldS (recsS st ++ List.map RV.r [⟨kind, 0, bA, bc, body⟩]) = nextS st kind body from rfl] at FD
 have K2 := Lib.hid kk2
 have l2 := r2.le
 have m2 := r2.max
 obtain ⟨n2, hn2⟩ : ∃ x, (rs1 ++ [(⟨kind, 0, bA, bc, body⟩ : RV)]).length = x := ⟨_, rfl⟩
 rw [hn2] at FD l2 ⊢
 clear o2 k2 d2 bd2 kk2 r2 hn2 CP1 HM1 G1 B1
 obtain ⟨NX, hNX⟩ : ∃ x, nextS st kind body = x := ⟨_, rfl⟩
 obtain ⟨s5, j5, e5, hap⟩ : ∃ s5 j5 e5, appF s j kind body = (s5, j5, e5) := ⟨_, _, _, rfl⟩
 have AP := Lib.hid (fun (w : World) X (h : LJ W w B q jb X s j) (hb : Bs w bA bn bc body) => ljappendG h OK.out RM.out kind hb (by omega))
 rw [hap] at OK2 HEL RM2 AP
 have KE : Hid (keepF s j st kind body = ((if e5 = 14 then cmpF s5 j5 (recsS NX) else (s5, j5, e5)).1, (if e5 = 14 then cmpF s5 j5 (recsS NX) else (s5, j5, e5)).2.1, (if (if e5 = 14 then cmpF s5 j5 (recsS NX) else (s5, j5, e5)).2.2 = 0 then NX else st), (if e5 = 14 then cmpF s5 j5 (recsS NX) else (s5, j5, e5)).2.2)) := by
  show keepF _ _ _ _ _ = _
  unfold keepF
  rw [hap, hNX]
 rw [hNX] at FD NI
 clear hap hNX KF RM
 have NO := Lib.hid NI.out.ok
 go_wp2_with fail
 refine FD.out.mono ?_
 rintro e w3 ⟨A3, n3, c3, rfl, m3, k3⟩
 have NB3 := Lib.hid (Blk.new w3 (stZ.cs none 0 0) 58)
 have KN3 : Hid (Keeps None w3 (w3.alloc (.cells (stZ.cs none 0 0).toArray 58))) := (Keeps.refl None w3).alloc _
 rw [← st_zero] at NB3 KN3
 unfold St.v
 have M3 := Lib.hid m3.lt
 have K3 := Lib.hid (K2.out.trans k3 (T := None) (fun _ h => h) (fun _ _ h => h))
 clear m3 k3 FD
 go_wp2_with (refine wpList_store_blk (b := w3.heap.size) (o := 0) (ds := NX.cs A3 n3 c3) NB3.out (by rw [St.cs_len NO.out, St.cs_len stZ_ok]; decide) (St.cs_one _ _ _ _) rfl rfl rfl rfl (by rw [St.cs_len NO.out]; exact st_size) ?_)
 intro w4 b4 k4
 rw [splice_all (by rw [St.cs_len NO.out, St.cs_len stZ_ok])] at b4
 have NB4 := Lib.hid b4
 have K34 := Lib.hid (KN3.out.trans k4 (T := None) (fun _ h => h) (fun b hb e => absurd e (by omega)))
 have K4 := Lib.hid (K3.out.trans K34.out (T := None) (fun _ h => h) (fun _ _ h => h))
 have G4 := Lib.hid (G.out.later K4.out)
 have lbw := G.out.l.lt
 have lbB := G.out.lB
 have B4 := Lib.hid (HB.out.keeps K4.out (fun _ _ _ _ _ h => h))
 have sz2 := K2.out.size
 have sz3 := K3.out.size
 have JLT := Lib.hid (fun k hk => G.out.lj.at_.lt k hk)
 obtain ⟨nb, hnb⟩ : ∃ x, w3.heap.size = x := ⟨_, rfl⟩
 have M4 : Hid (ChkV w4 (fun b => B ≤ b ∧ ¬ X.S b ∧ ¬ b = lb ∧ ¬ b = nb ∧ w.heap.size ≤ b) A3 n3 c3 NX.k.mid) := (M3.out.mono (fun b hb => by
  rcases hb.1 with h | h
  ·exact absurd h (fun h => h)
  ·exact ⟨by omega, fun hS => by have := JLT.out b hS; omega, by omega, by have := hb.2; omega, by omega⟩)).later K34.out
 rw [hnb] at NB4 sz3 ⊢
 have NS4 : Hid (¬ X.S nb) := fun hS => by have := JLT.out nb hS; omega
 have nlb : ¬ nb = lb := by omega
 clear b4 k4 NB3 KN3 M3 K3 K34 hnb K2 JLT
 have y0 := G4.out.l.cellD 0 _ rfl
 go_wp2_with fail
 refine (AP.out _ _ G4.out.lj B4.out).mono ?_
 rintro e w5 ⟨rfl, X5, h5, t5⟩
 have G5 := Lib.hid (G4.out.turn t5)
 have NB5 := Lib.hid (t5.keeps.blk NB4.out NS4.out)
 have NS5 := Lib.hid (t5.out NS4.out NB4.out.lt)
 have M5 := Lib.hid (M4.out.turn t5)
 have T5 : Hid (LGT lb X X5 w w5) := (LGT.jturn t5).ahead K4.out
 clear h5 t5 G4 NB4 NS4 M4 y0 B4 AP
 by_cases q14 : e5 = 14
 ·rw [if_pos q14] at KE
  subst q14
  obtain ⟨s7, j7, e7, hcf⟩ : ∃ s7 j7 e7, cmpF s5 j5 (recsS NX) = (s7, j7, e7) := ⟨_, _, _, rfl⟩
  have KE2 : Hid (keepF s j st kind body = (s7, j7, (if e7 = 0 then NX else st), e7)) := by show keepF _ _ _ _ _ = _; rw [KE.out, hcf]
  have RC := Lib.hid (fun wz h => lgrecs_any NX NO.out A3 n3 c3 (fun b => B ≤ b ∧ ¬ X5.S b ∧ ¬ b = lb ∧ ¬ b = nb ∧ w.heap.size ≤ b) wz h)
  unfold St.v at RC
  have CMP := Lib.hid (fun (w : World) (rs : List RV) (A : Option Addr) (k c : Nat) (P : Nat → Prop) (h : LJ W w B q jb X5 s5 j5) (hr : Rws w A k c rs) (hb : Bds w P rs) (hk : k ≤ 100000) (hm : rs.map RV.r = recsS NX) => ljcompactG h OK2.out HEL.out RM2.out hr hb hk (fun r hr => by
   have h1 := recsS_short NI.out r.r (by rw [← hm]; exact List.mem_map_of_mem hr)
   have h1 : r.b.length ≤ 512 := h1
   omega))
  have LS : Hid (∀ w', Keeps X5.S w5 w' → w'.cell? ⟨lb, 0, none⟩ = some (.pointer (some ⟨jb, 0, none⟩)) ∧ (Instr.loadAt 58 (.pointer (some ⟨nb, 0, none⟩))).run Tryz.prog w' = .ok (.agg (NX.cs A3 n3 c3).toArray) w') := fun w' k =>
   ⟨(k.blk G5.out.l G5.out.lS).cellD 0 _ rfl, run_loadAt_mid w' nb 0 58 (NX.cs A3 n3 c3) _ (blk_range (k.blk NB5.out NS5.out) (fun j v hv => by rw [Nat.zero_add]; exact hv)) Tryz.underlying58 rfl (by rw [St.cs_len NO.out]; exact st_size)⟩
  have KR := Lib.hid (Keeps.refl X5.S w5)
  have RLN := recsS_len NX
  clear KE
  go_wp2
  obtain ⟨mS, mh⟩ : ∃ S : World → Prop, ∀ w', S w' ↔ (w'.cell? ⟨lb, 0, none⟩ = some (.pointer (some ⟨jb, 0, none⟩)) ∧ ((Instr.loadAt 58 (.pointer (some ⟨nb, 0, none⟩))).run Tryz.prog w' = .ok (.agg (NX.cs A3 n3 c3).toArray) w')) := ⟨_, fun _ => Iff.rfl⟩
  have mk0 : ∀ x : Memb mS, x.at_.cell? ⟨lb, 0, none⟩ = some (.pointer (some ⟨jb, 0, none⟩)) := fun x => ((mh _).1 x.is).1
  have mk1 : ∀ x : Memb mS, (Instr.loadAt 58 (.pointer (some ⟨nb, 0, none⟩))).run Tryz.prog x.at_ = .ok (.agg (NX.cs A3 n3 c3).toArray) x.at_ := fun x => ((mh _).1 x.is).2
  have mn : Nonempty (Memb mS) := ⟨⟨(w5).drew, (mh _).2 ⟨(LS.out _ KR.out).1, (LS.out _ KR.out.drew).2⟩⟩⟩
  have mH := Lib.hid mh
  clear mh
  refine wp_region_mix [5, 6] (InS mS) (by kernel_rfl) (by kernel_rfl) (InS.mk ((mH.out _).2 ⟨(LS.out _ KR.out).1, (LS.out _ KR.out.drew).2⟩)) ?_
  refine wpMix_seg 5 (by kernel_rfl) (by decide) ?_
  simp only [tds]
  repeat (first | go_big_quiet_step (fail) | (go_big_quiet_want; first | refine quiet_load mk1 rfl rfl rfl aput ?_; go_big_quiet_on))
  refine wpQuiet_nil ?_
  refine wpMix_eff (by kernel_rfl) ?_
  go_wp2_with fail
  refine (RC.out _ (M5.out.later (Keeps.refl None w5).drew)).mono ?_
  rintro e w6 ⟨v6, rs6, rfl, cp6, hm6⟩
  obtain ⟨A6, c6, rfl, r6, -⟩ := cp6.o.shape
  have q6 := r6.le
  have q7 := r6.max
  have R6 := Lib.hid r6
  have BD6 := Lib.hid cp6.bd
  have HM6 := Lib.hid hm6
  have KN6 := Lib.hid ((Keeps.refl None w5).drew.trans cp6.k (T := None) (fun _ h => h) (fun _ _ h => h))
  have KX6 := Lib.hid (KN6.out.mono (T := X5.S) (fun _ _ h => absurd h (fun h => h)))
  have L6 : rs6.length ≤ 2 := by (have h := congrArg List.length hm6; rw [List.length_map] at h; omega)
  clear cp6 hm6 r6
  go_wp2
  refine MixK.on (InS.mk ((mH.out _).2 (⟨(LS.out _ KX6.out).1, (LS.out _ KX6.out).2⟩))) ?_
  refine wpMix_eff (by kernel_rfl) ?_
  go_wp2_with fail
  refine (CMP.out _ _ _ _ _ _ (G5.out.lj.later KN6.out) R6.out BD6.out (by omega) HM6.out).mono ?_
  rw [HM6.out, hcf]
  rintro e w7 ⟨rfl, X7, h7, t7⟩
  have G7 := Lib.hid ((G5.out.later KN6.out).turn t7)
  have NB6 := Lib.hid (KN6.out.blk NB5.out (fun h => h))
  have NB7 := Lib.hid (t7.keeps.blk NB6.out NS5.out)
  have M7 := Lib.hid ((M5.out.later KN6.out).turn t7)
  have KX7 := Lib.hid (KX6.out.trans t7.keeps (fun _ h => h) (fun _ _ h => h))
  have T7 : Hid (LGT lb X X7 w w7) := T5.out.trans ((LGT.jturn t7).ahead KN6.out)
  clear h7 t7
  go_wp2
  refine MixK.on (InS.mk ((mH.out _).2 (⟨(LS.out _ KX7.out).1, (LS.out _ KX7.out).2⟩))) ?_
  refine wpMix_seg 1 (by kernel_rfl) (by decide) ?_
  simp only [tds]
  repeat (first | go_big_quiet_step (fail) | (go_big_quiet_want; first | refine quiet_load mk1 rfl rfl rfl aput ?_; go_big_quiet_on))
  refine wpQuiet_nil ?_
  refine wpMix_nil ?_
  clear mk0 mk1 mn mH
  clear LS RC CMP M5 NB5 G5 hcf
  by_cases q0 : e7 = 0
  ·have d0 : (e7 == 0) = true := by simpa using q0
   rw [if_pos q0] at KE2
   have SO5 := Lib.hid G7.out.inv.ok
   go_wp2_with (first | (refine wpList_load_blk (b := nb) (o := 0) (ds := NX.cs A3 n3 c3) NB7.out (fun j v hv => by rw [Nat.zero_add]; exact hv) rfl rfl rfl Tryz.underlying58 rfl (by rw [St.cs_len NO.out]; exact st_size) ?_) | (refine wpList_store_blk (b := lb) (o := 1) (ds := NX.cs A3 n3 c3) G7.out.l (by show _ ≤ (St.cs _ _ _ _).length + 1; rw [St.cs_len NO.out, St.cs_len SO5.out]; decide) (St.cs_one _ _ _ _) rfl rfl rfl rfl (by rw [St.cs_len NO.out]; exact st_size) ?_))
   intro w9 b9 k9
   rw [lcs_put SO5.out NO.out] at b9
   have GF : Hid (LG W w9 B q lb jb X7 s7 j7 NX A3 n3 c3) := ⟨G7.out.lj.keepsG k9 (fun b hS e => G7.out.lS (by rw [← e]; exact hS)) (fun b hb e => by have h1 := G7.out.lB; have h2 := G7.out.lj.le; omega), b9, G7.out.lS, G7.out.lB, (M7.out.keeps k9 (fun b hb e => hb.2.2.1 e)).mono (fun b hb => ⟨hb.1, hb.2.1, hb.2.2.1⟩), NI.out⟩
   exact tl200 _
  ·exact tl201 _
 ·have d14 : (e5 == 14) = false := by simpa using q14
  rw [if_neg q14] at KE
  have KE2 : Hid (keepF s j st kind body = (s5, j5, (if e5 = 0 then NX else st), e5)) := KE.out
  clear KE
  by_cases q0 : e5 = 0
  ·have d0 : (e5 == 0) = true := by simpa using q0
   rw [if_pos q0] at KE2
   have SO5 := Lib.hid G5.out.inv.ok
   go_wp2_with (first | (refine wpList_load_blk (b := nb) (o := 0) (ds := NX.cs A3 n3 c3) NB5.out (fun j v hv => by rw [Nat.zero_add]; exact hv) rfl rfl rfl Tryz.underlying58 rfl (by rw [St.cs_len NO.out]; exact st_size) ?_) | (refine wpList_store_blk (b := lb) (o := 1) (ds := NX.cs A3 n3 c3) G5.out.l (by show _ ≤ (St.cs _ _ _ _).length + 1; rw [St.cs_len NO.out, St.cs_len SO5.out]; decide) (St.cs_one _ _ _ _) rfl rfl rfl rfl (by rw [St.cs_len NO.out]; exact st_size) ?_))
   intro w9 b9 k9
   rw [lcs_put SO5.out NO.out] at b9
   have GF : Hid (LG W w9 B q lb jb X5 s5 j5 NX A3 n3 c3) := ⟨G5.out.lj.keepsG k9 (fun b hS e => G5.out.lS (by rw [← e]; exact hS)) (fun b hb e => by have h1 := G5.out.lB; have h2 := G5.out.lj.le; omega), b9, G5.out.lS, G5.out.lB, (M5.out.keeps k9 (fun b hb e => hb.2.2.1 e)).mono (fun b hb => ⟨hb.1, hb.2.1, hb.2.2.1⟩), NI.out⟩
   exact tl202 _
  ·exact tl203 _
open Go.RowKit
theorem inv_mid {st : St} (h : st.inv) : st.k.mid.length ≤ 200 := by
 cases e : st.has with
 | true => rw [midOk_len (h.k e).1.2.2]; exact Nat.le_refl _
 | false => rw [h.n e]; exact Nat.zero_le _
theorem St.cs_mid {s : St} (o : s.ok) (A : Option Addr) (n cap : Nat) : (s.cs A n cap)[81]? = some (.slice A n cap) := St.cs_chk o A n cap 12 _ (Chk.cs_mid o.k A n cap)
theorem St.cs_midset {s : St} (o : s.ok) (A A' : Option Addr) (n cap n' cap' : Nat) : (s.cs A n cap).set 81 (.slice A' n' cap') = s.cs A' n' cap' := by
 have l1 := Com.cs_len o.c
 unfold St.cs
 rw [List.set_append_right _ _ (by omega), l1]
 congr 1
 show .bool s.has :: (s.k.cs A n cap).set 12 _ = _
 congr 1
 unfold Chk.cs
 show _ :: _ :: _ :: _ :: (List.map (Value.int .u8) s.k.id ++ [Value.slice A n cap]).set 8 _ = _
 rw [List.set_append_right _ _ (by rw [List.length_map, o.k.il]; exact Nat.le_refl _), List.length_map, o.k.il]
 rfl
set_option maxRecDepth 100000 in
set_option maxHeartbeats 3200000 in
theorem lgstate_any {W w : World} {B q lb jb : Nat} {X : JX} {s : FS} {j : JS} {st : St} {A : Option Addr} {n cap : Nat} (h : LG W w B q lb jb X s j st A n cap) :
    Calls Tryz.prog 22 #[.pointer (some ⟨lb, 0, none⟩)] w (GotSt w (fun _ => False) st) := by
 have SO := Lib.hid h.inv.ok
 have ML := inv_mid h.inv
 have lbw := h.l.lt
 obtain ⟨w0, hw0⟩ : ∃ x, w.alloc (.cells Tryz.zeroCells58 58) = x := ⟨_, rfl⟩
 have RB : Hid (Blk w0 w.heap.size (stZ.cs none 0 0) 58) := by rw [← hw0, st_zero]; exact Blk.new w (stZ.cs none 0 0) 58
 have KB : Hid (Keeps None w w0) := by rw [← hw0]; exact (Keeps.refl None w).alloc _
 have S0 : w.heap.size < w0.heap.size := RB.out.lt
 have LB := Lib.hid (KB.out.blk h.l (fun h => h))
 have MM := Lib.hid (h.m.later KB.out)
 have LN := Lib.hid h.m.b.len
 have CLN := Lib.hid (fun w h => clone_any A n cap st.k.mid w h (by have := LN.out; omega))
 have NB1 : Hid (Blk (w0.alloc (.cells Tryz.zeroCells58 58)) w0.heap.size (stZ.cs none 0 0) 58) := by rw [st_zero]; exact Blk.new w0 (stZ.cs none 0 0) 58
 have KN1 : Hid (Keeps None w0 (w0.alloc (.cells Tryz.zeroCells58 58))) := (Keeps.refl None w0).alloc _
 clear h
 go_enter Tryz.func22, Tryz.ntmps22
 go_wp2_with (first | (refine wpList_load_blk (b := lb) (o := 1) (ds := st.cs A n cap) LB.out (fun j v hv => by rw [Nat.add_comm]; exact hv) rfl rfl rfl Tryz.underlying58 rfl (by rw [St.cs_len SO.out]; exact st_size) ?_) | (refine wpList_store_blk (b := w0.heap.size) (o := 0) (ds := st.cs A n cap) NB1.out (by rw [St.cs_len SO.out, St.cs_len stZ_ok]; decide) (St.cs_one _ _ _ _) rfl rfl rfl rfl (by rw [St.cs_len SO.out]; exact st_size) ?_))
 intro w2 b2 k2
 rw [splice_all (by rw [St.cs_len SO.out, St.cs_len stZ_ok])] at b2
 have SB := Lib.hid b2
 have K02 := Lib.hid (KN1.out.trans k2 (T := None) (fun _ h => h) (fun b hb e => absurd e (by omega)))
 have RB2 := Lib.hid (K02.out.blk RB.out (fun h => h))
 have M2 := Lib.hid (MM.out.later K02.out)
 have KB2 := Lib.hid (KB.out.trans K02.out (T := None) (fun _ h => h) (fun _ _ h => h))
 obtain ⟨sb, hsb⟩ : ∃ x, w0.heap.size = x := ⟨_, rfl⟩
 rw [hsb] at SB ⊢
 have S2 : w.heap.size < sb := by omega
 have y81 := SB.out.cellD 81 _ (St.cs_mid SO.out A n cap)
 clear b2 k2 NB1 KN1 K02 RB LB MM KB hw0 hsb
 go_wp2_with fail
 refine (CLN.out _ M2.out.b).mono ?_
 rintro e w3 ⟨v3, rfl, o3, k3⟩
 obtain ⟨A3, c3, rfl, -, -⟩ := o3.shape
 rw [LN.out] at o3 ⊢
 have M3 := Lib.hid (chkV_own o3)
 have SB3 := Lib.hid (k3.blk SB.out (fun h => h))
 have RB3 := Lib.hid (k3.blk RB2.out (fun h => h))
 have KB3 := Lib.hid (KB2.out.trans k3 (T := None) (fun _ h => h) (fun _ _ h => h))
 have S3 : sb < w2.heap.size := SB.out.lt
 clear o3 k3 SB RB2 KB2 M2 y81 CLN
 have z81 := SB3.out.cellD 81 _ (St.cs_mid SO.out A n cap)
 have f81 := SB3.out.frozen 81
 have SB4 : Hid (Blk (w3.setCell ⟨sb, 81, none⟩ (.slice A3 n c3)) sb (st.cs A3 n c3) 58) := by
  have h := SB3.out.set 81 (.slice A3 n c3)
  rw [St.cs_midset SO.out] at h
  exact h
 have RB4 := Lib.hid (RB3.out.setOther ⟨sb, 81, none⟩ (.slice A3 n c3) (show ¬ w.heap.size = sb by omega))
 have KB4 := Lib.hid (KB3.out.setCell ⟨sb, 81, none⟩ (.slice A3 n c3) (fun h => absurd (show sb < w.heap.size from h) (by omega)))
 have M4 := Lib.hid (M3.out.keeps ((Keeps.refl (fun k => k = sb) w3).setCell ⟨sb, 81, none⟩ (.slice A3 n c3) (fun _ => rfl)) (fun b hb e => by omega))
 go_wp2_with (first | (refine wpList_load_blk (b := sb) (o := 0) (ds := st.cs A3 n c3) SB4.out (fun j v hv => by rw [Nat.zero_add]; exact hv) rfl rfl rfl Tryz.underlying58 rfl (by rw [St.cs_len SO.out]; exact st_size) ?_) | (refine wpList_store_blk (b := w.heap.size) (o := 0) (ds := st.cs A3 n c3) RB4.out (by rw [St.cs_len SO.out, St.cs_len stZ_ok]; decide) (St.cs_one _ _ _ _) rfl rfl rfl rfl (by rw [St.cs_len SO.out]; exact st_size) ?_))
 intro wz hbz hkz
 rw [splice_all (by rw [St.cs_len SO.out, St.cs_len stZ_ok])] at hbz
 have HBZ := Lib.hid hbz
 have HKZ := Lib.hid (KB4.out.trans hkz (T := None) (fun _ h => h) (fun b hb e => absurd e (by omega)))
 have HMZ := Lib.hid (M4.out.keeps hkz (fun b hb e => by omega))
 clear hbz hkz z81 f81
 go_wp2
 refine bodyPost_ret (cell_res1 rfl _ HBZ.out Tryz.underlying58 rfl (by rw [St.cs_len SO.out]; exact st_size) rfl) rfl ?_
 exact ⟨A3, n, c3, rfl, HMZ.out.mono (fun b hb => .inr (by omega)), HKZ.out⟩
def commitF (s : FS) (j : JS) (st : St) (c : Com) : FS × JS × St × Int := if c.may then keepF s j st 2 (comL c) else (s, j, st, 1)
theorem tl205 (P : Prop) (h : P := by
 clear KP NS B1 b1 o1 k1
 go_wp2_with fail
 refine KD.out.mono ?_
 rw [← CF.out]
 rintro e w2 ⟨rfl, X2, A2, n2, c2, g2, t2, u2⟩
 have G2 := Lib.hid g2
 have T2 := Lib.hid (t2.ahead K1.out)
 have U2 := Lib.hid (u2.lower K1.out.size)
 clear g2 t2 u2
 go_wp2
 go_ret
 exact ⟨rfl, X2, A2, n2, c2, G2.out, T2.out, U2.out⟩) : P := h
theorem tl204 (P : Prop) (h : P := by
 have L96 : (comL c).length = 96 := by rw [comL_len hm, CO.out.ml]
 rw [L96] at B1 NS q1 ⊢
 have KD := Lib.hid (KP.out w1 A1 96 c1 G1.out B1.out (by decide) NS.out)
 have CF : Hid (commitF s j st c = keepF s j st 2 (comL c)) := if_pos hm
 exact tl205 _) : P := h
theorem tl206 (P : Prop) (h : P := by
 clear KP NS B1 b1 o1 k1
 go_wp2
 go_ret
 rw [CF.out]
 exact ⟨rfl, X, A, n, cap, G1.out, LGT.same K1.out, MidT.refl _ _ _⟩) : P := h
set_option maxRecDepth 100000 in
set_option maxHeartbeats 3200000 in
theorem lgcommit_any {W w : World} {B q lb jb : Nat} {X : JX} {s : FS} {j : JS} {st : St} {A : Option Addr} {n cap m : Nat} (h : LG W w B q lb jb X s j st A n cap) (ok : JOk j) (c : Com) (oc : c.ok)
    (ok2 : JOk (appF s j 2 (comL c)).2.1) (hel : 2 ≤ (appF s j 2 (comL c)).1.er.length) (rm : JRm s (m + 3250)) :
    Calls Tryz.prog 11 #[.pointer (some ⟨lb, 0, none⟩), c.v] w (LGDone W w B q lb jb X A n (commitF s j st c)) := by
 have G := Lib.hid h
 have CO := Lib.hid oc
 have PUT := Lib.hid (fun w => lgputc_any c oc w)
 unfold Com.v at PUT ⊢
 obtain ⟨w0, hw0⟩ : ∃ x, w.alloc (.cells c.cs.toArray 41) = x := ⟨_, rfl⟩
 have CB : Hid (Blk w0 w.heap.size c.cs 41) := by rw [← hw0]; exact Blk.new w c.cs 41
 have K0 : Hid (Keeps None w w0) := by rw [← hw0]; exact (Keeps.refl None w).alloc _
 have KP := Lib.hid (fun (w' : World) (A' : Option Addr) (n' c' : Nat) (g : LG W w' B q lb jb X s j st A n cap) (hb : Bs w' A' n' c' (comL c)) (hn : n' ≤ 600) (hS : ∀ b off, 0 < n' → A' = some ⟨b, off, none⟩ → ¬ X.S b) => lgkeep_any g ok 2 hb hn hS ok2 hel rm)
 obtain ⟨V, hV⟩ : ∃ V, c.cs.toArray = V := ⟨_, rfl⟩
 rw [hV] at hw0 ⊢
 have HV := Lib.hid hV
 clear h ok oc ok2 hel rm hV
 go_enter Tryz.func11, Tryz.ntmps11
 go_wp2_with (refine wpList_load_blk (b := w.heap.size) (o := 0) (ds := c.cs) CB.out (fun j v hv => by rw [Nat.zero_add]; exact hv) rfl rfl rfl Tryz.underlying41 rfl (by rw [Com.cs_len CO.out]; exact com_size) ?_)
 go_wp2_with fail
 refine (PUT.out _).mono ?_
 rintro e w1 ⟨v1, rfl, o1, k1⟩
 obtain ⟨A1, c1, rfl, b1, -⟩ := o1.shape
 have K1 := Lib.hid (K0.out.trans k1 (T := None) (fun _ h => h) (fun _ _ h => h))
 have G1 := Lib.hid (G.out.later K1.out)
 have q1 := b1.le
 have q2 := b1.max
 have B1 := Lib.hid b1
 have NS : Hid (∀ b off, 0 < (comL c).length → A1 = some ⟨b, off, none⟩ → ¬ X.S b) := fun b off hn e hS => by
  have h1 := ((chkV_own o1).p b off hn e).1
  have h2 := G.out.lj.at_.lt b hS
  have h3 := K0.out.size
  omega
 by_cases hm : c.may
 ·exact tl204 _
 ·have L0 : (comL c).length = 0 := Nat.eq_zero_of_not_pos (fun h => hm (comL_pos.1 h))
  rw [L0]
  have CF : Hid (commitF s j st c = (s, j, st, 1)) := if_neg hm
  exact tl206 _
open Go.RowKit
theorem packF_of : ∀ (rs : List Rec) (out : List Int), (∀ r ∈ rs, GR r) → out.length + (pkL rs).length ≤ 1008 → packF out rs = some (out ++ pkL rs)
  | [], out, _, _ => by simp [packF, pkL]
  | r :: rs, out, h, hl => by
    have h1 := h r List.mem_cons_self
    have h2 := h1.ge
    simp only [pkL, List.length_append] at hl
    unfold packF
    rw [if_neg (by
      rintro (h3 | h3 | h3)
      · exact h1.k1 h3
      · omega
      · omega), packF_of rs (out ++ r.put) (fun x hx => h x (List.mem_cons_of_mem _ hx)) (by rw [List.length_append]; omega), List.append_assoc]
    rfl
theorem Keep.boot {s : FS} {e : Nat} {c : Int} {l : List Rec} {T : List Int} (h : Keep s e c l T) : Keep s.bootF e c l T := h
theorem Keep.good {s : FS} {n e : Nat} {c : Int} {l : List Rec} {T : List Int} (h : Keep s e c l T) : (∀ r ∈ l, GR r) ∧ (pkL l).length ≤ 1008 := by
 rcases h with ⟨rfl, rfl, rfl, rfl, -⟩ | ⟨t, ht, rfl, hs, -⟩
 ·exact ⟨fun r hr => (by cases hr), Nat.zero_le _⟩
 ·exact ⟨hs.gr, by have := hs.ll.2; omega⟩
theorem FG.arm {s : FS} {n : Nat} (h : FG s n) (a : Int) {ps : List Int} (hp : Byt ps) : FG (s.armF a ps) n := by
 unfold FS.armF
 split
 ·exact ⟨h.bl, h.el, h.byt, (fun z hz => by cases hz), h.n2⟩
 ·exact ⟨h.bl, h.el, h.byt, hp, h.n2⟩
theorem armF_b (s : FS) (a : Int) (ps : List Int) : (s.armF a ps).b = s.b ∧ (s.armF a ps).dark = s.dark := by unfold FS.armF; split <;> exact ⟨rfl, rfl⟩
theorem Keep.arm {s : FS} {e : Nat} {c : Int} {l : List Rec} {T : List Int} (h : Keep s e c l T) (a : Int) (ps : List Int) : Keep (s.armF a ps) e c l T := by
 unfold Keep
 rw [(armF_b s a ps).1]
 exact h
open Go.RowKit
theorem keptJ_lG {s : FS} {e : Nat} {c : Int} {l : List Rec} {T : List Int} (h : Keep s e c l T) : (keptJ e c l T).l = l := by
 rcases h with ⟨rfl, rfl, rfl, rfl, -⟩ | ⟨t, ht, rfl, -⟩
 ·rfl
 ·rw [keptJ_ge (by omega)]
theorem Keep.bytG {s : FS} {e : Nat} {c : Int} {l : List Rec} {T : List Int} (h : Keep s e c l T) : ∀ r ∈ l, Byt r.b := fun r hr => ((h.good (n := 2)).1 r hr).byt
def LGOpen (W w : World) (B q : Nat) (L : FL) (s : FS) (j : JS) (st : St) (e : Ending) (w' : World) : Prop :=
  ∃ (X : JX) (jb lb : Nat) (A : Option Addr) (n cap : Nat), e = .returned (.pointer (some ⟨lb, 0, none⟩)) ∧ LG W w' B q lb jb X s j st A n cap ∧ (X.L = L ∧ ∀ k, X.S k → L.O k ∨ w.heap.size ≤ k) ∧ Keeps None w w' ∧ w.heap.size ≤ lb ∧ MidT none 0 A n w.heap.size
theorem built_led0 (parts : List (Nat × Value)) : (Tryz.prog).built 91 parts = Instr.fill (fun x => [(0, 1), (1, 82)].toArray[x]?) (.pointer none :: stZ.cs none 0 0).toArray parts := by kernel_rfl
theorem tl207 (P : Prop) (h : P := by
 show Instr.fill _ _ [(0, .pointer (some ⟨jb, 0, none⟩)), (1, .agg (st.cs A n cap).toArray)] = _
 rw [fill_splice (off := 0) (size := 1) (ds := [.pointer (some ⟨jb, 0, none⟩)]) rfl rfl rfl (by simp), fill_splice (off := 1) (size := 82) (ds := st.cs A n cap) rfl rfl (St.cs_len o _ _ _) (by simp [splice, St.cs_len stZ_ok])]
 unfold Instr.fill
 congr 2
 have l1 := St.cs_len o A n cap
 have l2 := St.cs_len stZ_ok none 0 0
 simp [splice, St.lcs, l1, l2]) : P := h
theorem built_led {st : St} (o : st.ok) (jb : Nat) (A : Option Addr) (n cap : Nat) : (Tryz.prog).built 91 #[(0, .pointer (some ⟨jb, 0, none⟩)), (1, .agg (st.cs A n cap).toArray)].toList = some (st.lcs jb A n cap).toArray := by
 rw [built_led0]
 exact tl207 _
theorem tl208 (P : Prop) (h : P := by
 unfold St.v
 clear m4 k4 FD H3 K3 H4
 go_wp2_with (refine wpList_build_run BD.out rfl rfl (by simp [Act.eval, Act.put]) ?_)
 go_ret2
 exact ⟨w4.heap.size, rfl, X, jb, _, A4, n4, c4, rfl, GL.out, ⟨HL.out, HO.out⟩, K5.out, K4.out.size, MT.out⟩) : P := h
set_option maxRecDepth 100000 in
set_option maxHeartbeats 3200000 in
theorem lgopen_any {W w : World} {B q n e : Nat} {c : Int} {l : List Rec} {T : List Int} {L : FL} {s : FS} (h : LF W w B q L s) (g : FG s n) (hd : s.dark = false) (hk : Keep s e c l T) :
    Calls Tryz.prog 33 #[.agg #[.pointer (some ⟨q, 0, none⟩), .int .i64 0, .int .i64 2]] w fun e' w' => ∃ lb, e' = .returned (.tuple #[.pointer (some ⟨lb, 0, none⟩), .int .i64 0]) ∧ LGOpen W w B q L s (keptJ e c l T) (foldS l) (.returned (.pointer (some ⟨lb, 0, none⟩))) w' := by
 have hn : 2 ≤ L.n := by have h1 := h.at_.el; rw [g.el] at h1; have h2 := g.n2; omega
 have OP := Lib.hid (fun w1 (k : Keeps None w w1) => jopen_yes B L s q w1 (h.at_.later k) h.q hd hn)
 rw [hk.open g] at OP
 have OK := Lib.hid hk.ok
 have JL := Lib.hid (keptJ_lG hk)
 have BY := Lib.hid (foldS_inv hk.bytG)
 have HK := Lib.hid h.keeps
 have HLE := Lib.hid h.le
 clear h
 go_enter Tryz.func33, Tryz.ntmps33
 go_wp2_with fail
 refine (OP.out _ ((Keeps.refl None w).alloc _)).mono ?_
 rintro e w2 ⟨X, rfl, h2, hL, k2, hO⟩
 have KK := Lib.hid (((Keeps.refl None w).alloc (.cells #[.pointer (some ⟨q, 0, none⟩), .int .i64 0, .int .i64 2] 80)).trans k2 (T := None) (fun _ h => h) (fun _ _ h => h))
 have H2 : Hid (LJ W w2 B q X.jb X s (keptJ _ c l T)) := ⟨h2, rfl, HK.out.trans KK.out (fun _ h => h) (fun _ _ h => h), HLE.out⟩
 have HL := Lib.hid hL
 have HO : Hid (∀ k, X.S k → L.O k ∨ w.heap.size ≤ k) := fun k hk => (hO k hk).imp id (fun h => Nat.le_trans ((Keeps.refl None w).alloc (.cells #[.pointer (some ⟨q, 0, none⟩), .int .i64 0, .int .i64 2] 80)).size h)
 clear h2 hL k2 hO OP
 obtain ⟨jb, hjb⟩ : ∃ x, X.jb = x := ⟨_, rfl⟩
 rw [hjb] at H2 ⊢
 go_wp2_with fail
 refine (ljall H2.out OK.out).mono ?_
 rw [JL.out]
 rintro e w3 ⟨A3, c3, rs, rfl, hr, hm, k3⟩
 have FD := Lib.hid (lgfold_any _ _ _ _ _ w3 hr.r hr.bd)
 rw [hm] at FD
 have H3 := Lib.hid (H2.out.later k3)
 have K3 := Lib.hid (KK.out.trans k3 (T := None) (fun _ h => h) (fun _ _ h => h))
 clear hr hm k3 H2 KK
 go_wp2_with fail
 refine FD.out.mono ?_
 rintro e w4 ⟨A4, n4, c4, rfl, m4, k4⟩
 have H4 := Lib.hid (H3.out.later k4)
 have K4 := Lib.hid (K3.out.trans k4 (T := None) (fun _ h => h) (fun _ _ h => h))
 have M4 : Hid (ChkV w4 (fun b => B ≤ b ∧ ¬ X.S b ∧ ¬ b = w4.heap.size) A4 n4 c4 (foldS l).k.mid) := m4.lt.mono (fun b hb => by
  rcases hb.1 with h | h
  ·exact absurd h (fun h => h)
  ·have h1 : B ≤ jb := by have := H3.out.at_.jB; rw [hjb] at this; exact this
   have h2 : jb < w3.heap.size := by have := H3.out.at_.c.lt; rw [hjb] at this; exact this
   exact ⟨by omega, fun hS => by have := H3.out.at_.lt b hS; omega, by have := hb.2; omega⟩)
 have MT : Hid (MidT none 0 A4 n4 w.heap.size) := MidT.new m4 (fun b hb => hb.elim (fun h => h.elim) (fun h => Nat.le_trans K3.out.size h))
 have BD := Lib.hid (built_led BY.out.ok jb A4 n4 c4)
 have jBB : B ≤ w4.heap.size := by have h1 := H4.out.at_.jB; have h2 := H4.out.at_.c.lt; omega
 have GL : Hid (LG W (w4.alloc (.cells ((foldS l).lcs jb A4 n4 c4).toArray 91)) B q w4.heap.size jb X s (keptJ _ c l T) (foldS l) A4 n4 c4) :=
  ⟨H4.out.alloc _, Blk.new w4 ((foldS l).lcs jb A4 n4 c4) 91, fun hS => by have := H4.out.at_.lt _ hS; omega, jBB, M4.out.later ((Keeps.refl None w4).alloc _), BY.out⟩
 have K5 := Lib.hid (K4.out.alloc (.cells ((foldS l).lcs jb A4 n4 c4).toArray 91))
 exact tl208 _
set_option maxRecDepth 100000 in
theorem num23_any (x : Int) (w : World) : Calls Tryz.prog 10 #[.int .i64 x] w (Same (.int .i64 x) w) := by
 go_enter Tryz.func10, Tryz.ntmps10
 go_wp2
 go_ret
 exact ⟨rfl, rfl⟩
set_option maxRecDepth 100000 in
set_option maxHeartbeats 800000 in
theorem open23_any {W w : World} {B q n e : Nat} {c : Int} {l : List Rec} {T : List Int} {L : FL} {s : FS} (h : LF W w B q L s) (g : FG s n) (hd : s.dark = false) (hk : Keep s e c l T) :
    Calls Tryz.prog 9 #[.pointer (some ⟨q, 0, none⟩)] w (LGOpen W w B q L s (keptJ e c l T) (foldS l)) := by
 have EL : Hid (someB 0 2 (s.er.length : Int) = true) := decide_eq_true (by have := g.el; have := g.n2; omega)
 have OP := Lib.hid (fun w1 (k : Keeps None w w1) => lgopen_any (h.later k) g hd hk)
 have OF := Lib.hid (lgof h 0 2)
 have HK := Lib.hid h.keeps
 have HLE := Lib.hid h.le
 clear h
 go_enter Tryz.func9, Tryz.ntmps9
 go_wp2_with fail
 refine OF.out.mono ?_
 rw [ofF_yes EL.out, Int.zero_add]
 rintro e w1 ⟨rfl, k1⟩
 have K1 := Lib.hid k1
 clear k1 OF EL
 go_wp2_with fail
 refine (OP.out _ ((K1.out).alloc _)).mono ?_
 rintro e w2 ⟨lb, rfl, X, jb, lb', A, n, cap, e, g2, hL, k2, hlb, mt2⟩
 cases e
 have K2 := Lib.hid ((K1.out.alloc _).trans k2 (T := None) (fun _ h => h) (fun _ _ h => h))
 have G2 := Lib.hid g2
 have HL := Lib.hid hL.1
 have HO : Hid (∀ k, X.S k → L.O k ∨ w.heap.size ≤ k) := fun k hk => (hL.2 k hk).imp id (fun h => Nat.le_trans (K1.out.alloc _).size h)
 have HB : Hid (w.heap.size ≤ lb) := Nat.le_trans (K1.out.alloc _).size hlb
 have MT : Hid (MidT none 0 A n w.heap.size) := mt2.lower (K1.out.alloc _).size
 clear g2 hL k2 hlb mt2 K1 OP
 go_wp2_with fail
 refine (num23_any _ _).mono ?_
 rintro e w3 ⟨rfl, rfl⟩
 go_wp2
 go_ret
 exact ⟨X, jb, lb, A, n, cap, rfl, G2.out, ⟨HL.out, HO.out⟩, K2.out, HB.out, MT.out⟩
end Go.Proofs.YtobgbilanibodaaGreat
