
/- The walk of ledger's Fold. -/
import Derived.Test.YtfldgaiiniknpaaLCuXLg8
import Derived.Test.YtfldgaiiniknpaaLCue
namespace Go.Proofs.Ytfldgaiiniknpaa
open Go.RowKit

theorem stepS_ok {s : St} (o : s.ok) {r : Rec} (hb : Byt r.b) : (stepS s r).ok := by
  unfold stepS
  split
  · split
    · rename_i h
      obtain ⟨-, a, -, -⟩ := getCom_ok hb h
      exact ⟨⟨a.v, (by have := a.f; have := o.c.f; show max _ _ < _; omega), a.ml, a.mb⟩, chk0_ok⟩
    · exact o
  · split
    · split
      · rename_i h
        obtain ⟨-, a, -, -⟩ := getChk_ok hb h
        exact ⟨o.c, a⟩
      · exact o
    · split
      · exact ⟨o.c, chk0_ok⟩
      · exact o
theorem rec_size : (Try.prog.info? 58).map (·.size) = some 3 := by kernel_rfl
theorem rec_one (k s : Int) (A : Option Addr) (n c : Nat) : ∀ v ∈ [Value.int .i64 k, .int .i64 s, .slice A n c], v.oneCell' = true := by
  intro v hv
  simp only [List.mem_cons, List.not_mem_nil, or_false] at hv
  rcases hv with rfl | rfl | rfl <;> rfl
set_option maxRecDepth 100000 in
set_option maxHeartbeats 3200000 in
theorem lgfold_any (A : Option Addr) (n cap : Nat) (rs : List RV) (P : Nat → Prop) (w : World) (h : Rws w A n cap rs) (hb : Bds w P rs) :
    Calls Try.prog 17 #[.slice A n cap] w (GotSt w (fun _ => False) (foldS (rs.map RV.r))) := by
  have H := Lib.hid h
  have HB := Lib.hid hb
  have HL := Lib.hid h.len
  have hle := h.le
  have hmx := h.max
  have RB0 := Lib.hid (Blk.new w (stZ.cs none 0 0) 39)
  have KB0 : Hid (Keeps None w (w.alloc (.cells (stZ.cs none 0 0).toArray 39))) := (Keeps.refl None w).alloc _
  rw [← st_zero] at RB0 KB0
  have S0 : (w.alloc (.cells Try.zeroCells39 39)).heap.size = w.heap.size + 1 := by simp
  clear h hb
  go_enter Try.func17, Try.ntmps17
  go_wp2_with fail
  refine (lgblank_any _).mono ?_
  rintro e w1 ⟨A1, n1, c1, rfl, m1, k1⟩
  have RB1 := Lib.hid (k1.blk RB0.out (fun h => h))
  have KB1 := Lib.hid (KB0.out.trans k1 (T := None) (fun _ h => h) (fun _ _ h => h))
  have M1 : Hid (ChkV w1 (fun b => w.heap.size < b ∧ b < w1.heap.size) A1 n1 c1 st0.k.mid) := m1.lt.mono (fun b hb => ⟨by rcases hb.1 with h | h; exact absurd h (fun h => h); omega, hb.2⟩)
  have S1 : w.heap.size < w1.heap.size := RB1.out.lt
  have NB1 := Lib.hid (Blk.new w1 (stZ.cs none 0 0) 39)
  have KN1 : Hid (Keeps None w1 (w1.alloc (.cells (stZ.cs none 0 0).toArray 39))) := (Keeps.refl None w1).alloc _
  rw [← st_zero] at NB1 KN1
  unfold St.v
  clear m1 k1 RB0 KB0
  go_wp2_with (refine wpList_store_blk (b := w1.heap.size) (o := 0) (ds := st0.cs A1 n1 c1) NB1.out (by rw [St.cs_len st0_ok, St.cs_len stZ_ok]; decide) (St.cs_one _ _ _ _) rfl rfl rfl rfl (by rw [St.cs_len st0_ok]; exact st_size) ?_)
  intro w2 b2 k2
  rw [splice_all (by rw [St.cs_len st0_ok, St.cs_len stZ_ok])] at b2
  have SB2 := Lib.hid b2
  have K12 := Lib.hid (KN1.out.trans k2 (T := None) (fun _ h => h) (fun b hb e => absurd e (by omega)))
  have KB2 := Lib.hid (KB1.out.trans K12.out (T := None) (fun _ h => h) (fun _ _ h => h))
  have RB2 := Lib.hid (K12.out.blk RB1.out (fun h => h))
  have M2 : Hid (ChkV w2 (fun b => w.heap.size < b ∧ ¬ b = w1.heap.size) A1 n1 c1 st0.k.mid) := (M1.out.mono (fun b hb => ⟨hb.1, Nat.ne_of_lt hb.2⟩)).later K12.out
  obtain ⟨sb, hsb⟩ : ∃ x, w1.heap.size = x := ⟨_, rfl⟩
  rw [hsb] at SB2 M2 S1 ⊢
  clear b2 k2 NB1 KN1 K12 RB1 KB1 M1 hsb S0
  go_wp2
  go_loopw [9] (fun iv wr => ∃ (i : Nat) (s : St) (A' : Option Addr) (n' c' : Nat), i ≤ n ∧ iv = .int .i64 (i : Int) ∧ s.ok ∧ (((rs.map RV.r).drop i).foldl stepS s = foldS (rs.map RV.r)) ∧ Blk wr sb (s.cs A' n' c') 39 ∧ ChkV wr (fun b => w.heap.size < b ∧ ¬ b = sb) A' n' c' s.k.mid ∧ Blk wr w.heap.size (stZ.cs none 0 0) 39 ∧ Keeps None w wr) (fun iv _ => n - (intOf iv).toNat)
  case atStart => exact ⟨0, st0, A1, n1, c1, Nat.zero_le _, rfl, st0_ok, rfl, SB2.out, M2.out, RB2.out, KB2.out⟩
  case round =>
    obtain ⟨i, s, A', n', c', hi, rfl, os, hf, hsbk, hm, hr, hk⟩ := hrel
    obtain ⟨wv, rfl⟩ : ∃ x, x = wr := ⟨_, rfl⟩
    have OS := Lib.hid os
    have HF := Lib.hid hf
    have SB := Lib.hid hsbk
    have HM := Lib.hid hm
    have RB := Lib.hid hr
    have HK := Lib.hid hk
    have SZ : sb < wv.heap.size := hsbk.lt
    clear os hf hsbk hm hr hk SB2 M2 RB2 KB2
    by_cases hlt : i < n
    · have hir : i < rs.length := by rw [HL.out]; exact hlt
      obtain ⟨r, hr0⟩ : ∃ r, rs[i] = r := ⟨_, rfl⟩
      have hget : rs[i]? = some r := by rw [List.getElem?_eq_getElem hir, hr0]
      obtain ⟨gb, off, rfl, hgb, hc⟩ := H.out.at_ (by omega)
      obtain ⟨x0, x1, x2⟩ := hc i r hget
      rw [← HK.out.cell hgb (fun h => h)] at x0 x1 x2
      have BR := Lib.hid ((HB.out.bs r (List.mem_of_getElem? hget)).keeps HK.out (fun _ _ _ _ _ h => h))
      have hdr : (rs.map RV.r).drop i = r.r :: (rs.map RV.r).drop (i + 1) := by
        rw [List.drop_eq_getElem_cons (by rw [List.length_map]; exact hir), List.getElem_map, hr0]
      have HF2 : Hid (((rs.map RV.r).drop (i + 1)).foldl stepS (stepS s ⟨r.k, r.s, r.b⟩) = foldS (rs.map RV.r)) := by
        show _ = _
        rw [← HF.out, hdr]
        rfl
      have ON : Hid ((stepS s ⟨r.k, r.s, r.b⟩).ok) := stepS_ok OS.out BR.out.byte
      obtain ⟨rk, rsq, rA, rc, rb⟩ := r
      unfold RV.v at x2
      dsimp only at x0 x1 x2 BR HF2 ON
      obtain ⟨rn, hrn⟩ : ∃ z, rb.length = z := ⟨_, rfl⟩
      rw [hrn] at x2 BR
      clear hget hc hr0 hir hdr HF hrn
      obtain ⟨w3, hw3⟩ : ∃ x, wv.alloc (.cells #[.int .i64 rk, .int .i64 rsq, .slice rA rn rc] 58) = x := ⟨_, rfl⟩
      have XB3 : Hid (Blk w3 wv.heap.size [.int .i64 rk, .int .i64 rsq, .slice rA rn rc] 58) := by rw [← hw3]; exact Blk.new wv [.int .i64 rk, .int .i64 rsq, .slice rA rn rc] 58
      have K3 : Hid (Keeps None wv w3) := by rw [← hw3]; exact (Keeps.refl None wv).alloc _
      have SB3 := Lib.hid (K3.out.blk SB.out (fun h => h))
      have BR3 := Lib.hid (BR.out.keeps K3.out (fun _ _ _ _ _ h => h))
      have HM3 := Lib.hid (HM.out.later K3.out)
      have HK3 := Lib.hid (HK.out.trans K3.out (T := None) (fun _ h => h) (fun _ _ h => h))
      have RB3 := Lib.hid (K3.out.blk RB.out (fun h => h))
      have y0 := XB3.out.cellD 0 _ rfl
      have y1 := XB3.out.cellD 1 _ rfl
      have y2 := XB3.out.cellD 2 _ rfl
      have WITH := Lib.hid (lgwith_any s OS.out A' n' c' (fun b => w.heap.size < b ∧ ¬ b = sb) rk rsq rA rn rc rb w3 HM3.out BR3.out)
      unfold St.v at WITH
      clear BR SB HM RB HK BR3
      go_wp2_with (refine wpList_load_blk (b := sb) (o := 0) (ds := s.cs A' n' c') SB3.out (fun j v hv => by rw [Nat.zero_add]; exact hv) rfl rfl rfl Try.underlying39 rfl (by rw [St.cs_len OS.out]; exact st_size) ?_)
      go_wp2_with fail
      refine WITH.out.mono ?_
      rintro e w4 ⟨A4, n4, c4, rfl, m4, k4⟩
      have SB4 := Lib.hid (k4.blk SB3.out (fun h => h))
      have M4 : Hid (ChkV w4 (fun b => w.heap.size < b ∧ ¬ b = sb) A4 n4 c4 (stepS s ⟨rk, rsq, rb⟩).k.mid) := m4.mono (fun b hb => by
        have h1 := K3.out.size
        have h2 := HK3.out.size
        rcases hb with h | h
        · exact h
        · exact ⟨by omega, by omega⟩)
      have RB4 := Lib.hid (k4.blk RB3.out (fun h => h))
      have HK4 := Lib.hid (HK3.out.trans k4 (T := None) (fun _ h => h) (fun _ _ h => h))
      clear m4 k4 y0 y1 y2 XB3 SB3 HM3 RB3 HK3 WITH
      unfold St.v
      go_wp2_with (refine wpList_store_blk (b := sb) (o := 0) (ds := (stepS s ⟨rk, rsq, rb⟩).cs A4 n4 c4) SB4.out (by rw [St.cs_len ON.out, St.cs_len OS.out]; decide) (St.cs_one _ _ _ _) rfl rfl rfl rfl (by rw [St.cs_len ON.out]; exact st_size) ?_)
      intro w5 b5 k5
      rw [splice_all (by rw [St.cs_len ON.out, St.cs_len OS.out])] at b5
      have SB5 := Lib.hid b5
      have M5 := Lib.hid (M4.out.keeps k5 (fun b hb e => hb.2 e))
      have RB5 := Lib.hid (k5.blk RB4.out (by omega))
      have HK5 := Lib.hid (HK4.out.trans k5 (T := None) (fun _ h => h) (fun b hb e => absurd e (by omega)))
      clear b5 k5 SB4 M4 RB4 HK4
      go_wp2
      go_roundw
      case rel => exact ⟨i + 1, _, A4, n4, c4, by omega, by go_num, ON.out, HF2.out, SB5.out, M5.out, RB5.out, HK5.out⟩
      case measure => simp [intOf]; omega
    · obtain rfl : i = n := by omega
      have EQ : Hid (foldS (rs.map RV.r) = s) := by
        show _ = _
        rw [← HF.out, List.drop_eq_nil_of_le (by rw [List.length_map, HL.out]; exact Nat.le_refl _)]
        rfl
      clear HF
      go_wp2_with (first | (refine wpList_load_blk (b := sb) (o := 0) (ds := s.cs A' n' c') SB.out (fun j v hv => by rw [Nat.zero_add]; exact hv) rfl rfl rfl Try.underlying39 rfl (by rw [St.cs_len OS.out]; exact st_size) ?_) | (refine wpList_store_blk (b := w.heap.size) (o := 0) (ds := s.cs A' n' c') RB.out (by rw [St.cs_len OS.out, St.cs_len stZ_ok]; decide) (St.cs_one _ _ _ _) rfl rfl rfl rfl (by rw [St.cs_len OS.out]; exact st_size) ?_))
      intro wz hbz hkz
      rw [splice_all (by rw [St.cs_len OS.out, St.cs_len stZ_ok])] at hbz
      have HBZ := Lib.hid hbz
      have HKZ := Lib.hid (HK.out.trans hkz (T := None) (fun _ h => h) (fun b hb e => absurd e (by omega)))
      have HMZ := Lib.hid (HM.out.keeps hkz (fun b hb e => by have h1 := hb.1; omega))
      clear hbz hkz
      go_wp2
      refine bodyPost_ret (cell_res1 rfl _ HBZ.out Try.underlying39 rfl (by rw [St.cs_len OS.out]; exact st_size) rfl) rfl ?_
      exact ⟨A', n', c', by rw [EQ.out]; rfl, by rw [EQ.out]; exact HMZ.out.mono (fun b hb => .inr (by have h1 := hb.1; omega)), HKZ.out⟩
end Go.Proofs.Ytfldgaiiniknpaa
