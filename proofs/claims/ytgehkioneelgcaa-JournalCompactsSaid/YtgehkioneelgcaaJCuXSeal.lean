
/- The walks of seal.one, seal.Table, seal.Sum and of the reference's Fall and Sum. -/
import Derived.Test.YtgehkioneelgcaaJCuXCrc
import Derived.Test.YtgehkioneelgcaaJCuXMix2
import Derived.Test.YtgehkioneelgcaaJCuXFrame
import Derived.Laws.BitsAllLaws
import Derived.Deep.WholeRow
import Derived.Laws.ResultCell
namespace Go.Proofs.Ytgehkioneelgcaa
open Go.RowKit

theorem wpList_load_run {P : Program} {ops : Array Oper} {rest : List Oper} {o : Oper} {a : Act} {w : World} {Q : Exit → Act → World → Prop} {p : Operand} {t : TypeId} {v1 v : Value}
    (hr : (Instr.loadAt t v1).run P w = .ok v w) (hg : o.guard = none) (ho : o.op = .load t p) (hp : a.eval p = v1)
    (h : wpList P ops Q rest (a.put o.dst v) w) : wpList P ops Q (o :: rest) a w := by
  refine wpList_plain hg fun K hK => ?_
  unfold Oper.wp execOp
  simp only [ho, Sem.run_bind, Sem.run_pure, Result.andThen_ok, hp, hr]
  exact hK _ _ h
theorem wpList_store_run {P : Program} {ops : Array Oper} {rest : List Oper} {o : Oper} {a : Act} {w w' : World} {Q : Exit → Act → World → Prop} {p x : Operand} {t : TypeId} {v1 v2 : Value}
    (hr : (Instr.storeAt t v1 v2).run P w = .ok () w') (hg : o.guard = none) (ho : o.op = .store t p x) (hp : a.eval p = v1) (hx : a.eval x = v2)
    (h : wpList P ops Q rest (a.put o.dst undef) w') : wpList P ops Q (o :: rest) a w := by
  refine wpList_plain hg fun K hK => ?_
  unfold Oper.wp execOp
  simp only [ho, Sem.run_bind, Sem.run_pure, Result.andThen_ok, hp, hx, hr]
  exact hK _ _ h

theorem Try.info83 : (Try.prog.info? 83).map (fun i => (i.zero, i.size)) = some (some (.agg (List.replicate 256 (Value.int .u32 0)).toArray), 256) := by kernel_rfl
theorem table_size : (Try.prog.info? 83).map (·.size) = some 256 := (zero_of_info Try.info83).2
theorem run_loadAt_row {w : World} {g : Nat} {cs : List Value} {T : TypeId} (h : Blk w g cs T) (hl : cs.length = 256) : (Instr.loadAt 83 (.pointer (some ⟨g, 0, none⟩))).run Try.prog w = .ok (.agg cs.toArray) w := by
  simp only [Instr.loadAt, Instr.sureAddr, Sem.run_bind, Sem.run_pure, Result.andThen]
  exact run_loadVar_row _ _ _ 83 cs.toArray (0, 0) _ h Try.underlying83 rfl (by rw [table_size]; simp [hl])
theorem run_loadVar_tbl {w : World} {g : Nat} {cs : List Value} {T : TypeId} (h : Blk w g cs T) (hl : cs.length = 256) : (loadVar 83 ⟨g, 0, none⟩).run Try.prog w = .ok (.agg cs.toArray) w :=
  run_loadVar_row _ _ _ 83 cs.toArray (0, 0) _ h Try.underlying83 rfl (by rw [table_size]; simp [hl])
theorem run_storeAt_row {w : World} {g : Nat} {cs ds : List Value} {T : TypeId} (h : Blk w g cs T) (hl : cs.length = 256) (hd : ds.length = 256) (h1 : ∀ v ∈ ds, v.oneCell' = true) : (Instr.storeAt 83 (.pointer (some ⟨g, 0, none⟩)) (.agg ds.toArray)).run Try.prog w = .ok () (w.setRow g ds.toArray) := by
  simp only [Instr.storeAt, Instr.sureAddr, Sem.run_bind, Sem.run_pure, Result.andThen]
  exact run_storeVar_row _ _ _ 83 cs.toArray ds.toArray h (by rw [table_size]; simp [hd]) (by simp [hl, hd]) (Array.all_eq_true_iff_forall_mem.2 (fun v hv => h1 v (by simpa using hv)))
theorem Blk.setRow {w : World} {g : Nat} {cs ds : List Value} {T : TypeId} (h : Blk w g cs T) : Blk (w.setRow g ds.toArray) g ds T := by
  unfold Blk at *
  simp only [World.setRow, Array.getElem?_modify, if_true, h]
  rfl
theorem keeps_setRow {S : Nat → Prop} {a w : World} {g : Nat} {ds : Array Value} (h : Keeps S a w) (hg : g < a.heap.size → S g) : Keeps S a (w.setRow g ds) := by
  refine ⟨h.os, h.tape, h.output, by simpa [World.setRow] using h.size, fun i hi hn => ?_⟩
  rw [← h.block i hi hn]
  have hne : ¬ g = i := fun e => hn (by subst e; exact hg hi)
  simp [World.setRow, Array.getElem?_modify, hne]

theorem results_cell1 {fn : Func} {p : Tmp} {ty : TypeId} (h : fn.results = #[.cell p ty]) (tmps : Array Value) (P : Program) (w : World) :
    (results fn tmps).run P w = ((asAddr (tmps.getD p undef)).run P w).andThen fun a w₁ => (loadVar ty a).run P w₁ := by
  simp only [results, h]
  simp [Sem.run_bind, Result.andThen]
/-- One halving in the walk's spelling. -/
theorem half1_odd {x : Nat} (h : x % 2 = 1) : half1 x = (x / 2) ^^^ 3988292384 := by unfold half1; rw [if_pos h]
theorem half1_even {x : Nat} (h : ¬ x % 2 = 1) : half1 x = x / 2 := by unfold half1; rw [if_neg h]
theorem bits_odd (x : Nat) (hx : x < 4294967296) : bits .and .u32 (x : Int) 1 = ((x % 2 : Nat) : Int) := by
  have := u32_and_nat x 1 hx (by decide)
  rw [nat_mask1] at this
  exact this
theorem bits_poly (x : Nat) (hx : x < 4294967296) : bits .xor .u32 ((x : Int) / 2) 3988292384 = (((x / 2) ^^^ 3988292384 : Nat) : Int) := by
  have := u32_xor_nat (x / 2) 3988292384 (by omega) (by decide)
  exact this

set_option maxRecDepth 100000 in
theorem sone_any (i : Nat) (hi : i < 256) (w : World) : Calls Try.prog 70 #[.int .i64 i] w fun e w' => e = .returned (.int .u32 (halves 8 i)) ∧ w = w' := by
  go_enter Try.func70, Try.ntmps70
  go_wp2
  go_loop [3, 7] (fun xv kv => ∃ k : Nat, k ≤ 8 ∧ kv = .int .i64 k ∧ xv = .int .u32 (halves k i)) (fun _ kv => 8 - (intOf kv).toNat)
  case atStart => exact ⟨0, by decide, rfl, rfl⟩
  case round =>
    obtain ⟨k, hk, rfl, rfl⟩ := hrel
    have hx := halves_lt k (x := i) (by omega)
    have HS := Lib.hid (halves_succ k i)
    generalize hgx : halves k i = x at *
    have HX := Lib.hid hgx
    clear hgx
    by_cases h8 : k < 8
    · have e1 := bits_odd x hx
      by_cases ho : x % 2 = 1
      · have e2 := bits_poly x hx
        rw [ho] at e1
        have HO := Lib.hid (half1_odd ho)
        clear ho
        go_wp2
        go_round
        case rel => exact ⟨k + 1, by omega, by go_num, by rw [HS.out, HO.out]⟩
        case measure => simp [intOf]; omega
      · have h0 : x % 2 = 0 := by omega
        rw [h0] at e1
        have HO := Lib.hid (half1_even ho)
        clear ho h0
        go_wp2
        go_round
        case rel => exact ⟨k + 1, by omega, by go_num, by rw [HS.out, HO.out]; rfl⟩
        case measure => simp [intOf]; omega
    · obtain rfl : k = 8 := by omega
      clear HS hk h8
      go_wp2
      go_ret
      exact ⟨by rw [HX.out]; rfl, rfl⟩

/-- The table so far. -/
def tblL (k : Nat) : List Value := (List.range 256).map (fun i => .int .u32 (if i < k then (halves 8 i : Int) else 0))
theorem tblL_len (k : Nat) : (tblL k).length = 256 := by simp [tblL]
theorem tblL_get (k i : Nat) (hi : i < 256) : (tblL k)[i]? = some (.int .u32 (if i < k then (halves 8 i : Int) else 0)) := by
  simp [tblL, List.getElem?_range, hi]
theorem tblL_zero : tblL 0 = List.replicate 256 (Value.int .u32 0) := by
  apply List.ext_getElem?
  intro i
  by_cases hi : i < 256
  · rw [tblL_get _ _ hi, List.getElem?_replicate, if_pos hi, if_neg (Nat.not_lt_zero _)]
  · rw [List.getElem?_eq_none (by rw [tblL_len]; omega), List.getElem?_eq_none (by rw [List.length_replicate]; omega)]
theorem tblL_set (k : Nat) : (tblL k).set k (.int .u32 (halves 8 k : Int)) = tblL (k + 1) := by
  apply List.ext_getElem?
  intro i
  rw [List.getElem?_set]
  by_cases hi : i < 256
  · rw [tblL_get _ _ hi, tblL_get _ _ hi, tblL_len]
    by_cases e : k = i
    · subst e; simp [hi]
    · by_cases h2 : i < k
      · simp [e, h2, show i < k + 1 by omega]
      · simp [e, h2, show ¬ i < k + 1 by omega]
  · have h1 : (tblL k)[i]? = none := List.getElem?_eq_none (by rw [tblL_len]; omega)
    have h2 : (tblL (k + 1))[i]? = none := List.getElem?_eq_none (by rw [tblL_len]; omega)
    rw [h1, h2, tblL_len]
    by_cases e : k = i
    · rw [if_pos e, if_neg (by omega)]
    · rw [if_neg e]
theorem tblL_one (k : Nat) : ∀ v ∈ tblL k, v.oneCell' = true := by
  intro v hv
  obtain ⟨i, _, rfl⟩ := List.mem_map.1 hv
  rfl

set_option maxRecDepth 100000 in
set_option maxHeartbeats 1600000 in
theorem stable_any (w : World) : Calls Try.prog 57 #[] w fun e w' => e = .returned (.agg (tblL 256).toArray) ∧ Keeps None w w' := by
  have hz := (zero_of_info Try.info83).1
  rw [← tblL_zero] at hz
  go_enter Try.func57, Try.ntmps57
  go_wp2
  have K0 : Hid (Blk ((w.alloc (.cells (tblL 0).toArray 83)).alloc (.cells (tblL 0).toArray 83)) w.heap.size (tblL 0) 83 ∧ Blk ((w.alloc (.cells (tblL 0).toArray 83)).alloc (.cells (tblL 0).toArray 83)) (w.heap.size + 1) (tblL 0) 83 ∧ Keeps None w ((w.alloc (.cells (tblL 0).toArray 83)).alloc (.cells (tblL 0).toArray 83))) :=
    ⟨(Blk.new _ _ _).alloc _, by have := Blk.new (w.alloc (.cells (tblL 0).toArray 83)) (tblL 0) 83; simpa using this, ((Keeps.refl _ _).alloc _).alloc _⟩
  clear hz
  go_loopw [3] (fun iv wr => ∃ k : Nat, k ≤ 256 ∧ iv = .int .i64 k ∧ Blk wr w.heap.size (tblL 0) 83 ∧ Blk wr (w.heap.size + 1) (tblL k) 83 ∧ Keeps None w wr) (fun iv _ => 256 - (intOf iv).toNat)
  case atStart => exact ⟨0, by decide, rfl, K0.out.1, K0.out.2.1, K0.out.2.2⟩
  case round =>
    obtain ⟨k, hk, rfl, hb0, hb1, hK⟩ := hrel
    clear K0
    have HB0 := Lib.hid hb0
    have HB1 := Lib.hid hb1
    have HK := Lib.hid hK
    by_cases hlt : k < 256
    · have ONE := Lib.hid (fun w => sone_any k hlt w)
      have c1 := hb1.cellD k _ (tblL_get k k hlt)
      have f1 := hb1.frozen k
      have SET := Lib.hid (hb1.set k (.int .u32 (halves 8 k : Int)))
      rw [tblL_set] at SET
      generalize (halves 8 k : Int) = x at *
      clear hb0 hb1 hK
      go_wp2_with fail
      refine (ONE.out _).mono ?_
      rintro e w' ⟨rfl, rfl⟩
      go_wp2
      go_roundw
      case rel => exact ⟨k + 1, by omega, by go_num, HB0.out.setOther _ _ (by simp), SET.out, HK.out.setCell _ _ (fun h => by simp at h; omega)⟩
      case measure => simp [intOf]; omega
    · obtain rfl : k = 256 := by omega
      have R1 := Lib.hid (run_loadAt_row hb1 (tblL_len _))
      have R2 := Lib.hid (run_storeAt_row hb0 (tblL_len _) (tblL_len 256) (tblL_one _))
      have R3 := Lib.hid (run_loadVar_tbl (hb0.setRow (ds := tblL 256)) (tblL_len 256))
      have KF := Lib.hid (keeps_setRow (ds := (tblL 256).toArray) hK (g := w.heap.size) (fun h => by omega))
      clear hb0 hb1 hK HB0 HB1
      go_wp2_with (first | (refine wpList_load_run R1.out rfl rfl rfl ?_) | (refine wpList_store_run R2.out rfl rfl rfl rfl ?_))
      refine bodyPost_ret (v := .agg (tblL 256).toArray) ?_ rfl ⟨rfl, KF.out⟩
      rw [results_cell1 (p := 0) (ty := 83) rfl]
      show ((asAddr (.pointer (some ⟨w.heap.size, 0, none⟩))).run Try.prog _).andThen _ = _
      simp only [asAddr, Sem.run_pure, Result.andThen_ok]
      exact R3.out

theorem not32 (x : Nat) (h : x < 4294967296) : bits .xor .u32 IntKind.u32.max (x : Int) = ((x ^^^ 4294967295 : Nat) : Int) := by
  have e : IntKind.u32.max = ((4294967295 : Nat) : Int) := by decide
  rw [e, u32_xor_nat 4294967295 x (by decide) h, Nat.xor_comm]
def natL (zs : List Int) : List Nat := zs.map Int.toNat
theorem natL_take (zs : List Int) (k : Nat) (hk : k < zs.length) : natL (zs.take (k + 1)) = natL (zs.take k) ++ [(zs.getD k 0).toNat] := by
  unfold natL
  rw [← take_snoc zs k hk, List.map_append, getD_get 0 hk]; rfl
theorem natL_lt {zs : List Int} (h : ∀ z ∈ zs, 0 ≤ z ∧ z ≤ 255) : ∀ c ∈ natL zs, c < 256 := by
  intro c hc
  obtain ⟨z, hz, rfl⟩ := List.mem_map.1 hc
  have := h z hz
  omega

set_option maxRecDepth 100000 in
set_option maxHeartbeats 1600000 in
theorem ssum_any (A : Option Addr) (n cap : Nat) (zs : List Int) (w : World) (h : Bs w A n cap zs) :
    Calls Try.prog 46 #[.slice A n cap] w fun e w' => e = .returned (.int .u32 (crcOf (natL zs))) ∧ Keeps None w w' := by
  have hz := (zero_of_info Try.info83).1
  rw [← tblL_zero] at hz
  have HZ := Lib.hid hz
  have hle := h.le
  have hmax := h.max
  have HL := Lib.hid h.len
  have HB := Lib.hid h
  have HBY := Lib.hid h.byte
  clear h hz
  go_enter Try.func46, Try.ntmps46
  go_wp2_with fail
  refine (stable_any _).mono ?_
  rintro e w1 ⟨rfl, hk⟩
  have hz := HZ.out
  have R2 := Lib.hid (run_storeAt_row (Blk.new w1 (tblL 0) 83) (tblL_len _) (tblL_len 256) (tblL_one _))
  have HK := Lib.hid (keeps_setRow (ds := (tblL 256).toArray) (hk.alloc (.cells (tblL 0).toArray 83)) (g := w1.heap.size) (S := None) (fun h => by have := hk.size; omega))
  have HT := Lib.hid ((Blk.new w1 (tblL 0) 83).setRow (ds := tblL 256))
  have hk2 := hk.size
  clear hk
  go_wp2_with (refine wpList_store_run R2.out rfl rfl rfl rfl ?_)
  generalize hwx : (w1.alloc (.cells (tblL 0).toArray 83)).setRow w1.heap.size (tblL 256).toArray = wx at *
  clear hwx R2 hz HZ
  go_loop [4, 10] (fun xv kv => ∃ k : Nat, k ≤ n ∧ kv = .int .i64 k ∧ xv = .int .u32 (crcRun 4294967295 (natL (zs.take k)))) (fun _ kv => n - (intOf kv).toNat)
  case atStart => exact ⟨0, Nat.zero_le _, rfl, rfl⟩
  case round =>
    obtain ⟨k, hk, rfl, rfl⟩ := hrel
    have hx : crcRun 4294967295 (natL (zs.take k)) < 4294967296 := crcRun_lt (by decide) (natL_lt (fun z hz => HBY.out z (List.mem_of_mem_take hz)))
    by_cases hlt : k < n
    · obtain ⟨bl, of1, z, rfl, hz1, hza, hzb, hc1⟩ := (HB.out.keeps HK.out (fun _ _ _ _ _ h => h)).get hlt
      obtain ⟨c, rfl⟩ : ∃ c : Nat, z = c := ⟨z.toNat, by omega⟩
      have HS : Hid (crcRun 4294967295 (natL (zs.take (k + 1))) = crcStep (crcRun 4294967295 (natL (zs.take k))) c) := by
        show _ = _
        rw [natL_take zs k (by rw [HL.out]; exact hlt), crcRun_append, hz1]; rfl
      generalize crcRun 4294967295 (natL (zs.take k)) = x at *
      have hc : c < 256 := by omega
      have e1 : bits .xor .u8 ((x : Int) % 256) c = ((x % 256 ^^^ c : Nat) : Int) := u8_xor_nat (x % 256) c (Nat.mod_lt _ (by decide)) hc
      have hi : x % 256 ^^^ c < 256 := Nat.xor_lt_two_pow (n := 8) (Nat.mod_lt _ (by decide)) hc
      have e2 : bits .xor .u32 ((x : Int) / 256) (halves 8 (x % 256 ^^^ c) : Nat) = ((crcStep x c : Nat) : Int) := u32_xor_nat (x / 256) _ (by omega) (halves_lt 8 (by omega))
      have c2 := HT.out.cellD _ _ (tblL_get 256 _ hi)
      rw [if_pos hi] at c2
      generalize crcStep x c = y at *
      generalize halves 8 (x % 256 ^^^ c) = hh at *
      generalize x % 256 ^^^ c = ii at *
      clear hz1
      go_wp2
      go_round
      case rel => exact ⟨k + 1, by omega, by go_num, by rw [HS.out]⟩
      case measure => simp [intOf]; omega
    · obtain rfl : k = n := by omega
      rw [List.take_of_length_le (by rw [HL.out]; exact Nat.le_refl _)] at hx ⊢
      have HF : Hid (crcOf (natL zs) = crcRun 4294967295 (natL zs) ^^^ 4294967295) := rfl
      generalize crcRun 4294967295 (natL zs) = x at *
      go_wp2
      go_ret
      exact ⟨by rw [HF.out, ← not32 x hx]; rfl, HK.out⟩
end Go.Proofs.Ytgehkioneelgcaa
