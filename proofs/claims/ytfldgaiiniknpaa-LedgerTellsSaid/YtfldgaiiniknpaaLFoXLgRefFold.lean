
/- The walks of the reference's Nothing and Fold. -/
import Derived.Test.YtfldgaiiniknpaaLFoXLgRefGetK
import Derived.Test.YtfldgaiiniknpaaLFog
namespace Go.Proofs.Ytfldgaiiniknpaa
open Go.RowKit

set_option maxRecDepth 100000 in
set_option maxHeartbeats 1600000 in
theorem rgnothing_any (w : World) : Calls Try.prog 44 #[] w (GotSt w (fun _ => False) st0) := by
  have NW := Lib.hid (Blk.new w (stZ.cs none 0 0) 39)
  have KW : Hid (Keeps None w (w.alloc (.cells (stZ.cs none 0 0).toArray 39))) := (Keeps.refl None w).alloc _
  rw [← st_zero] at NW KW
  go_enter Try.func44, Try.ntmps44
  go_wp2_with (first | (refine wpList_build_run built_none rfl rfl (by simp [Act.eval, Act.put]) ?_) | (refine wpList_build_run (built_st st0_ok.c) rfl rfl (by simp [Act.eval, Act.put]) ?_) | (refine wpList_store_blk (b := w.heap.size) (o := 0) (ds := st0.cs none 0 0) NW.out (by rw [St.cs_len st0_ok, St.cs_len stZ_ok]; decide) (St.cs_one _ _ _ _) rfl rfl rfl rfl (by rw [St.cs_len st0_ok]; exact st_size) ?_))
  intro w' hb hk
  rw [splice_all (by rw [St.cs_len st0_ok, St.cs_len stZ_ok])] at hb
  have HB := Lib.hid hb
  have HK := Lib.hid (KW.out.trans hk (T := None) (fun _ h => h) (fun b hb e => absurd e (by omega)))
  clear hb hk NW KW
  go_wp2
  refine bodyPost_ret (cell_res1 rfl _ HB.out Try.underlying39 rfl (by rw [St.cs_len st0_ok]; exact st_size) rfl) rfl ?_
  exact ⟨none, 0, 0, rfl, ChkV.nil _ _, HK.out⟩
set_option maxRecDepth 100000 in
set_option maxHeartbeats 6400000 in
theorem rgfold_any (A : Option Addr) (n cap : Nat) (rs : List RV) (P : Nat → Prop) (w : World) (h : Rws w A n cap rs) (hb : Bds w P rs) :
    Calls Try.prog 18 #[.slice A n cap] w (GotSt w (fun _ => False) (foldS (rs.map RV.r))) := by
  have H := Lib.hid h
  have HB := Lib.hid hb
  have HL := Lib.hid h.len
  have hle := h.le
  have hmx := h.max
  have RB0 := Lib.hid (Blk.new w (stZ.cs none 0 0) 39)
  have KB0 : Hid (Keeps None w (w.alloc (.cells (stZ.cs none 0 0).toArray 39))) := (Keeps.refl None w).alloc _
  rw [← st_zero] at RB0 KB0
  have S0 : (w.alloc (.cells Try.zeroCells39 39)).heap.size = w.heap.size + 1 := by simp
  clear h hb
  go_enter Try.func18, Try.ntmps18
  go_wp2_with fail
  refine (rgnothing_any _).mono ?_
  rintro e w1 ⟨A1, n1, c1, rfl, m1, k1⟩
  have RB1 := Lib.hid (k1.blk RB0.out (fun h => h))
  have KB1 := Lib.hid (KB0.out.trans k1 (T := None) (fun _ h => h) (fun _ _ h => h))
  have M1 : Hid (ChkV w1 (fun b => w.heap.size < b ∧ b < w1.heap.size) A1 n1 c1 st0.k.mid) := m1.lt.mono (fun b hb => ⟨by rcases hb.1 with h | h; exact absurd h (fun h => h); omega, hb.2⟩)
  have S1 : w.heap.size < w1.heap.size := RB1.out.lt
  have NB1 := Lib.hid (Blk.new w1 (stZ.cs none 0 0) 39)
  have KN1 : Hid (Keeps None w1 (w1.alloc (.cells (stZ.cs none 0 0).toArray 39))) := (Keeps.refl None w1).alloc _
  rw [← st_zero] at NB1 KN1
  unfold St.v
  clear m1 k1 RB0 KB0
  go_wp2_with (refine wpList_store_blk (b := w1.heap.size) (o := 0) (ds := st0.cs A1 n1 c1) NB1.out (by rw [St.cs_len st0_ok, St.cs_len stZ_ok]; decide) (St.cs_one _ _ _ _) rfl rfl rfl rfl (by rw [St.cs_len st0_ok]; exact st_size) ?_)
  intro w2 b2 k2
  rw [splice_all (by rw [St.cs_len st0_ok, St.cs_len stZ_ok])] at b2
  have SB2 := Lib.hid b2
  have K12 := Lib.hid (KN1.out.trans k2 (T := None) (fun _ h => h) (fun b hb e => absurd e (by omega)))
  have KB2 := Lib.hid (KB1.out.trans K12.out (T := None) (fun _ h => h) (fun _ _ h => h))
  have RB2 := Lib.hid (K12.out.blk RB1.out (fun h => h))
  have M2 : Hid (ChkV w2 (fun b => w.heap.size < b ∧ ¬ b = w1.heap.size) A1 n1 c1 st0.k.mid) := (M1.out.mono (fun b hb => ⟨hb.1, Nat.ne_of_lt hb.2⟩)).later K12.out
  obtain ⟨sb, hsb⟩ : ∃ x, w1.heap.size = x := ⟨_, rfl⟩
  rw [hsb] at SB2 M2 S1 ⊢
  clear b2 k2 NB1 KN1 K12 RB1 KB1 M1 hsb S0
  go_wp2
  go_loopw [4] (fun iv wr => ∃ (i : Nat) (s : St) (A' : Option Addr) (n' c' : Nat), i ≤ n ∧ iv = .int .i64 (i : Int) ∧ s.ok ∧ (((rs.map RV.r).drop i).foldl stepS s = foldS (rs.map RV.r)) ∧ Blk wr sb (s.cs A' n' c') 39 ∧ ChkV wr (fun b => w.heap.size < b ∧ ¬ b = sb) A' n' c' s.k.mid ∧ Blk wr w.heap.size (stZ.cs none 0 0) 39 ∧ Keeps None w wr) (fun iv _ => n - (intOf iv).toNat)
  case atStart => exact ⟨0, st0, A1, n1, c1, Nat.zero_le _, rfl, st0_ok, rfl, SB2.out, M2.out, RB2.out, KB2.out⟩
  case round =>
    obtain ⟨i, s, A', n', c', hi, rfl, os, hf, hsbk, hm, hr, hk⟩ := hrel
    obtain ⟨wv, rfl⟩ : ∃ x, x = wr := ⟨_, rfl⟩
    have OS := Lib.hid os
    have HF := Lib.hid hf
    have SB := Lib.hid hsbk
    have HM := Lib.hid hm
    have RB := Lib.hid hr
    have HK := Lib.hid hk
    have SZ : sb < wv.heap.size := hsbk.lt
    clear os hf hsbk hm hr hk SB2 M2 RB2 KB2
    by_cases hlt : i < n
    · have hir : i < rs.length := by rw [HL.out]; exact hlt
      obtain ⟨r, hr0⟩ : ∃ r, rs[i] = r := ⟨_, rfl⟩
      have hget : rs[i]? = some r := by rw [List.getElem?_eq_getElem hir, hr0]
      obtain ⟨gb, off, rfl, hgb, hc⟩ := H.out.at_ (by omega)
      obtain ⟨x0, x1, x2⟩ := hc i r hget
      rw [← HK.out.cell hgb (fun h => h)] at x0 x1 x2
      have BR := Lib.hid ((HB.out.bs r (List.mem_of_getElem? hget)).keeps HK.out (fun _ _ _ _ _ h => h))
      have hdr : (rs.map RV.r).drop i = r.r :: (rs.map RV.r).drop (i + 1) := by
        rw [List.drop_eq_getElem_cons (by rw [List.length_map]; exact hir), List.getElem_map, hr0]
      have HF2 : Hid (((rs.map RV.r).drop (i + 1)).foldl stepS (stepS s ⟨r.k, r.s, r.b⟩) = foldS (rs.map RV.r)) := by
        show _ = _
        rw [← HF.out, hdr]
        rfl
      obtain ⟨rk, rsq, rA, rc, rb⟩ := r
      unfold RV.v at x2
      dsimp only at x0 x1 x2 BR HF2
      obtain ⟨rn, hrn⟩ : ∃ z, rb.length = z := ⟨_, rfl⟩
      rw [hrn] at x2 BR
      clear hget hc hr0 hir hdr HF hrn
      by_cases q2 : rk = 2
      · subst q2
        have GET := Lib.hid (fun w h => rggetc_any rA rn rc rb w h)
        have GO : Hid ((getCom rb).1.ok) := by
          show (getCom rb).1.ok
          unfold getCom
          split
          · rename_i h; exact comP_ok BR.out.byte h.1
          · exact com0_ok
        have EQ : Hid (stepS s ⟨2, rsq, rb⟩ = if (getCom rb).2 = true then ⟨{ (getCom rb).1 with fl := max (getCom rb).1.fl s.c.fl }, false, chk0⟩ else s) := by show stepS _ _ = _; unfold stepS; simp
        obtain ⟨G, hG⟩ : ∃ G, (getCom rb).1 = G := ⟨_, rfl⟩
        obtain ⟨ok, hok⟩ : ∃ b, (getCom rb).2 = b := ⟨_, rfl⟩
        rw [hG, hok] at EQ GET
        rw [hG] at GO
        clear hG hok
        unfold Com.v at GET
        go_wp2_with fail
        refine (GET.out _ BR.out).mono ?_
        rintro e w4 ⟨rfl, k4⟩
        have NW := Lib.hid (Blk.new w4 com0.cs 25)
        have KW : Hid (Keeps None w4 (w4.alloc (.cells com0.cs.toArray 25))) := (Keeps.refl None w4).alloc _
        have K4 := Lib.hid k4
        have S4 : wv.heap.size ≤ w4.heap.size := k4.size
        rw [← com_zero] at NW KW
        clear k4 x0 x1 x2 GET
        go_wp2_with (refine wpList_store_blk (b := w4.heap.size) (o := 0) (ds := G.cs) NW.out (by rw [Com.cs_len GO.out]; decide) (Com.cs_one _) rfl rfl rfl rfl (by rw [Com.cs_len GO.out]; exact com_size) ?_)
        intro w5 b5 k5
        rw [splice_all (by rw [Com.cs_len GO.out]; rfl)] at b5
        have GB := Lib.hid b5
        have K45 := Lib.hid (KW.out.trans k5 (T := None) (fun _ h => h) (fun b hb e => absurd e (by omega)))
        have K35 := Lib.hid (K4.out.trans K45.out (T := None) (fun _ h => h) (fun _ _ h => h))
        have SB5 := Lib.hid (K35.out.blk SB.out (fun h => h))
        have RB5 := Lib.hid (K35.out.blk RB.out (fun h => h))
        have HM5 := Lib.hid (HM.out.later K35.out)
        have KB5 := Lib.hid (HK.out.trans K35.out (T := None) (fun _ h => h) (fun _ _ h => h))
        have SZ5 : w.heap.size < sb := S1
        clear b5 k5 NW KW K4 K45 SB HM RB HK BR
        have c2 := GB.out.cellD 2 _ rfl
        have f2 := GB.out.frozen 2
        have s2 := SB5.out.cellD 2 _ (St.cs_com OS.out A' n' c' 2 _ rfl)
        cases ok with
        | true =>
          have EQ2 : Hid (stepS s ⟨2, rsq, rb⟩ = ⟨⟨G.slot, G.ver, max G.fl s.c.fl, G.len, G.me⟩, false, chk0⟩) := EQ.out
          by_cases hm : G.fl < s.c.fl
          · have M2 : max G.fl s.c.fl = s.c.fl := by omega
            rw [M2] at EQ2
            obtain ⟨C, hC⟩ : ∃ C : Com, (⟨G.slot, G.ver, s.c.fl, G.len, G.me⟩ : Com) = C := ⟨_, rfl⟩
            have CO : Hid C.ok := by show C.ok; rw [← hC]; exact ⟨GO.out.v, OS.out.c.f, GO.out.ml, GO.out.mb⟩
            have GB2 : Hid (Blk (w5.setCell ⟨w4.heap.size, 2, none⟩ (.int .u64 ((s.c.fl : Nat) : Int))) w4.heap.size C.cs 25) := by rw [← hC]; exact GB.out.set 2 (.int .u64 ((s.c.fl : Nat) : Int))
            have SB6 := Lib.hid (SB5.out.setOther ⟨w4.heap.size, 2, none⟩ (.int .u64 ((s.c.fl : Nat) : Int)) (show ¬ sb = w4.heap.size by omega))
            have RB6 := Lib.hid (RB5.out.setOther ⟨w4.heap.size, 2, none⟩ (.int .u64 ((s.c.fl : Nat) : Int)) (show ¬ w.heap.size = w4.heap.size by omega))
            have KB6 := Lib.hid (KB5.out.setCell ⟨w4.heap.size, 2, none⟩ (.int .u64 ((s.c.fl : Nat) : Int)) (fun h => absurd (show w4.heap.size < w.heap.size from h) (by omega)))
            rw [hC] at EQ2
            clear hC M2 GB SB5 RB5 KB5
            -- GB2 the commit's block fact, C the commit, CO its ok, SB6 the state's block fact at the world, RB6 result's, KB6 keeping, EQ2 equation
            have BS2 := Lib.hid (built_st CO.out)
            have OS2 : Hid ((⟨C, false, chk0⟩ : St).ok) := ⟨CO.out, chk0_ok⟩
            go_wp2_with (first | (refine wpList_load_blk (b := w4.heap.size) (o := 0) (ds := (C).cs) GB2.out (fun j v hv => by rw [Nat.zero_add]; exact hv) rfl rfl rfl Try.underlying25 rfl (by rw [Com.cs_len CO.out]; exact com_size) ?_) | (refine wpList_build_run BS2.out rfl rfl (by simp [Act.eval, Act.put]) ?_) | (refine wpList_store_blk (b := sb) (o := 0) (ds := (⟨C, false, chk0⟩ : St).cs none 0 0) SB6.out (by rw [St.cs_len OS2.out, St.cs_len OS.out]; decide) (St.cs_one _ _ _ _) rfl rfl rfl rfl (by rw [St.cs_len OS2.out]; exact st_size) ?_))
            intro wz hbz hkz
            rw [splice_all (by rw [St.cs_len OS2.out, St.cs_len OS.out])] at hbz
            have HBZ := Lib.hid hbz
            have HKZ := Lib.hid (KB6.out.trans hkz (T := None) (fun _ h => h) (fun b hb e => absurd e (by omega)))
            have RBZ := Lib.hid (hkz.blk RB6.out (by omega))
            have EQZ := Lib.hid EQ2.out
            clear hbz hkz
            -- (⟨C, false, chk0⟩ : St) the new state, none, 0, 0 its slice with commas, OS2 ok fact, EQZ equation stepS .. = new, HBZ state's block fact, (ChkV.nil _ _) checkpoint fact, RBZ result's block fact, HKZ keeping
            go_wp2
            go_roundw
            case rel => exact ⟨i + 1, (⟨C, false, chk0⟩ : St), none, 0, 0, by omega, by go_num, OS2.out, by (have h := HF2.out; rw [EQZ.out] at h; exact h), HBZ.out, (ChkV.nil _ _), RBZ.out, HKZ.out⟩
            case measure => simp [intOf]; omega
          · have M2 : max G.fl s.c.fl = G.fl := by omega
            rw [M2] at EQ2
            have EQ3 : Hid (stepS s ⟨2, rsq, rb⟩ = ⟨G, false, chk0⟩) := EQ2
            -- GB the commit's block fact, G the commit, GO its ok, SB5 the state's block fact at the world, RB5 result's, KB5 keeping, EQ3 equation
            have BS2 := Lib.hid (built_st GO.out)
            have OS2 : Hid ((⟨G, false, chk0⟩ : St).ok) := ⟨GO.out, chk0_ok⟩
            go_wp2_with (first | (refine wpList_load_blk (b := w4.heap.size) (o := 0) (ds := (G).cs) GB.out (fun j v hv => by rw [Nat.zero_add]; exact hv) rfl rfl rfl Try.underlying25 rfl (by rw [Com.cs_len GO.out]; exact com_size) ?_) | (refine wpList_build_run BS2.out rfl rfl (by simp [Act.eval, Act.put]) ?_) | (refine wpList_store_blk (b := sb) (o := 0) (ds := (⟨G, false, chk0⟩ : St).cs none 0 0) SB5.out (by rw [St.cs_len OS2.out, St.cs_len OS.out]; decide) (St.cs_one _ _ _ _) rfl rfl rfl rfl (by rw [St.cs_len OS2.out]; exact st_size) ?_))
            intro wz hbz hkz
            rw [splice_all (by rw [St.cs_len OS2.out, St.cs_len OS.out])] at hbz
            have HBZ := Lib.hid hbz
            have HKZ := Lib.hid (KB5.out.trans hkz (T := None) (fun _ h => h) (fun b hb e => absurd e (by omega)))
            have RBZ := Lib.hid (hkz.blk RB5.out (by omega))
            have EQZ := Lib.hid EQ3.out
            clear hbz hkz
            -- (⟨G, false, chk0⟩ : St) the new state, none, 0, 0 its slice with commas, OS2 ok fact, EQZ equation stepS .. = new, HBZ state's block fact, (ChkV.nil _ _) checkpoint fact, RBZ result's block fact, HKZ keeping
            go_wp2
            go_roundw
            case rel => exact ⟨i + 1, (⟨G, false, chk0⟩ : St), none, 0, 0, by omega, by go_num, OS2.out, by (have h := HF2.out; rw [EQZ.out] at h; exact h), HBZ.out, (ChkV.nil _ _), RBZ.out, HKZ.out⟩
            case measure => simp [intOf]; omega
        | false =>
          have EQ2 : Hid (stepS s ⟨2, rsq, rb⟩ = s) := EQ.out
          -- s the new state, A', n', c' its slice with commas, OS ok fact, EQ2 equation stepS .. = new, SB5 state's block fact, HM5.out checkpoint fact, RB5 result's block fact, KB5 keeping
          go_wp2
          go_roundw
          case rel => exact ⟨i + 1, s, A', n', c', by omega, by go_num, OS.out, by (have h := HF2.out; rw [EQ2.out] at h; exact h), SB5.out, HM5.out, RB5.out, KB5.out⟩
          case measure => simp [intOf]; omega
      have d2 : (rk == 2) = false := by simpa using q2
      by_cases q3 : rk = 3
      · subst q3
        have GET := Lib.hid (fun w h => rggetk_any rA rn rc rb w h)
        have GO : Hid ((getChk rb).1.ok) := by
          show (getChk rb).1.ok
          unfold getChk
          split
          · rename_i h; exact chkP_ok BR.out.byte h.1
          · exact chk0_ok
        have EQ : Hid (stepS s ⟨3, rsq, rb⟩ = if (getChk rb).2 = true then { s with has := true, k := (getChk rb).1 } else s) := by show stepS _ _ = _; unfold stepS; simp
        unfold GotChk at GET
        obtain ⟨G, hG⟩ : ∃ G, (getChk rb).1 = G := ⟨_, rfl⟩
        obtain ⟨ok, hok⟩ : ∃ b, (getChk rb).2 = b := ⟨_, rfl⟩
        rw [hG, hok] at EQ GET
        rw [hG] at GO
        clear hG hok
        unfold Chk.v at GET
        go_wp2_with fail
        refine (GET.out _ BR.out).mono ?_
        rintro e w4 ⟨gA, gn, gc, rfl, m4, k4⟩
        have M4 := Lib.hid m4
        have NW := Lib.hid (Blk.new w4 (chk0.cs none 0 0) 29)
        have KW : Hid (Keeps None w4 (w4.alloc (.cells (chk0.cs none 0 0).toArray 29))) := (Keeps.refl None w4).alloc _
        have K4 := Lib.hid k4
        have S4 : wv.heap.size ≤ w4.heap.size := k4.size
        rw [← chk_zero] at NW KW
        clear m4 k4 x0 x1 x2 GET
        go_wp2_with (refine wpList_store_blk (b := w4.heap.size) (o := 0) (ds := G.cs gA gn gc) NW.out (by rw [Chk.cs_len GO.out]; decide) (Chk.cs_one _ _ _ _) rfl rfl rfl rfl (by rw [Chk.cs_len GO.out]; exact chk_size) ?_)
        intro w5 b5 k5
        rw [splice_all (by rw [Chk.cs_len GO.out]; rfl)] at b5
        have GB := Lib.hid b5
        have K45 := Lib.hid (KW.out.trans k5 (T := None) (fun _ h => h) (fun b hb e => absurd e (by omega)))
        have K35 := Lib.hid (K4.out.trans K45.out (T := None) (fun _ h => h) (fun _ _ h => h))
        have SB5 := Lib.hid (K35.out.blk SB.out (fun h => h))
        have RB5 := Lib.hid (K35.out.blk RB.out (fun h => h))
        have HM5 := Lib.hid (HM.out.later K35.out)
        have KB5 := Lib.hid (HK.out.trans K35.out (T := None) (fun _ h => h) (fun _ _ h => h))
        have M5 := Lib.hid (M4.out.lt.keeps K45.out (fun _ _ h => h))
        clear b5 k5 NW KW K4 K45 M4 SB HM RB HK BR
        cases ok with
        | true =>
          have OS2 : Hid (({ s with has := true, k := G } : St).ok) := ⟨OS.out.c, GO.out⟩
          have EQ2 : Hid (stepS s ⟨3, rsq, rb⟩ = { s with has := true, k := G }) := EQ.out
          have f68 := SB5.out.frozen 68
          have x68 := SB5.out.cellD 68 _ (St.cs_has OS.out A' n' c')
          have K56 := Lib.hid ((Keeps.refl (fun k => k = sb) w5).setCell ⟨sb, 68, none⟩ (.bool true) (fun _ => rfl))
          have SB6 := Lib.hid (SB5.out.set 68 (.bool true))
          have GB6 := Lib.hid (K56.out.blk GB.out (by omega))
          go_wp2_with (first | (refine wpList_load_blk (b := w4.heap.size) (o := 0) (ds := G.cs gA gn gc) GB6.out (fun j v hv => by rw [Nat.zero_add]; exact hv) rfl rfl rfl Try.underlying29 rfl (by rw [Chk.cs_len GO.out]; exact chk_size) ?_) | (refine wpList_store_blk (b := sb) (o := 69) (ds := G.cs gA gn gc) SB6.out (by rw [List.length_set, St.cs_len OS.out, Chk.cs_len GO.out]; decide) (Chk.cs_one _ _ _ _) rfl rfl rfl rfl (by rw [Chk.cs_len GO.out]; exact chk_size) ?_))
          intro w6 b6 k6
          rw [St.cs_chg OS.out A' n' c' true GO.out gA gn gc] at b6
          have SB7 := Lib.hid b6
          have K57 := Lib.hid (K56.out.trans k6 (fun _ h => h) (fun _ _ h => h))
          have RB7 := Lib.hid (K57.out.blk RB5.out (by omega))
          have KB7 := Lib.hid (KB5.out.trans K57.out (T := None) (fun _ h => h) (fun b hb e => absurd e (by omega)))
          have M7 : Hid (ChkV w6 (fun b => w.heap.size < b ∧ ¬ b = sb) gA gn gc G.mid) := (M5.out.mono (fun b hb => by have h1 := hb.1; have h2 : wv.heap.size ≤ b := h1; exact ⟨by omega, by omega⟩)).keeps K57.out (fun b hb e => hb.2 e)
          clear b6 k6 SB6 K56 f68 x68 SB5 RB5 KB5 GB6 GB HM5 M5
          -- ({ s with has := true, k := G } : St) the new state, gA, gn, gc its slice with commas, OS2 ok fact, EQ2 equation stepS .. = new, SB7 state's block fact, M7.out checkpoint fact, RB7 result's block fact, KB7 keeping
          go_wp2
          go_roundw
          case rel => exact ⟨i + 1, ({ s with has := true, k := G } : St), gA, gn, gc, by omega, by go_num, OS2.out, by (have h := HF2.out; rw [EQ2.out] at h; exact h), SB7.out, M7.out, RB7.out, KB7.out⟩
          case measure => simp [intOf]; omega
        | false =>
          have EQ2 : Hid (stepS s ⟨3, rsq, rb⟩ = s) := EQ.out
          -- s the new state, A', n', c' its slice with commas, OS ok fact, EQ2 equation stepS .. = new, SB5 state's block fact, HM5.out checkpoint fact, RB5 result's block fact, KB5 keeping
          go_wp2
          go_roundw
          case rel => exact ⟨i + 1, s, A', n', c', by omega, by go_num, OS.out, by (have h := HF2.out; rw [EQ2.out] at h; exact h), SB5.out, HM5.out, RB5.out, KB5.out⟩
          case measure => simp [intOf]; omega
      have d3 : (rk == 3) = false := by simpa using q3
      by_cases q4 : rk = 4
      · subst q4
        have EQ : Hid (stepS s ⟨4, rsq, rb⟩ = { s with has := false, k := chk0 }) := by show stepS _ _ = _; unfold stepS; simp
        have OS2 : Hid (({ s with has := false, k := chk0 } : St).ok) := ⟨OS.out.c, chk0_ok⟩
        have x68 := SB.out.cellD 68 _ (St.cs_has OS.out A' n' c')
        have f68 := SB.out.frozen 68
        have SB4 := Lib.hid (SB.out.set 68 (.bool false))
        have CZ : (#[.int .i64 0, .int .i64 0, .int .i64 0, .int .i64 0, .int .u8 0, .int .u8 0, .int .u8 0, .int .u8 0, .int .u8 0, .int .u8 0, .int .u8 0, .int .u8 0, .slice none 0 0] : Array Value) = (chk0.cs none 0 0).toArray := chk_zero
        have CZ2 := Lib.hid CZ
        clear CZ
        go_wp2_with (refine wpList_store_blk (b := sb) (o := 69) (ds := chk0.cs none 0 0) SB4.out (by rw [List.length_set, St.cs_len OS.out]; decide) (Chk.cs_one _ _ _ _) rfl rfl rfl (by rw [← CZ2.out]; rfl) chk_size ?_)
        intro w5 b5 k5
        rw [St.cs_chg OS.out A' n' c' false chk0_ok none 0 0] at b5
        have SB5 := Lib.hid b5
        have K35 : Hid (Keeps (fun k => k = sb) wv w5) := ((Keeps.refl (fun k => k = sb) wv).setCell ⟨sb, 68, none⟩ (.bool false) (fun _ => rfl)).trans k5 (fun _ h => h) (fun _ _ h => h)
        have RB5 := Lib.hid (K35.out.blk RB.out (by omega))
        have KB5 := Lib.hid (HK.out.trans K35.out (T := None) (fun _ h => h) (fun b hb e => absurd e (by omega)))
        clear b5 k5 SB4 x0 x1 x2 x68 f68 SB RB HK HM
        -- ({ s with has := false, k := chk0 } : St) the new state, none, 0, 0 its slice with commas, OS2 ok fact, EQ equation stepS .. = new, SB5 state's block fact, (ChkV.nil _ _) checkpoint fact, RB5 result's block fact, KB5 keeping
        go_wp2
        go_roundw
        case rel => exact ⟨i + 1, ({ s with has := false, k := chk0 } : St), none, 0, 0, by omega, by go_num, OS2.out, by (have h := HF2.out; rw [EQ.out] at h; exact h), SB5.out, (ChkV.nil _ _), RB5.out, KB5.out⟩
        case measure => simp [intOf]; omega
      have d4 : (rk == 4) = false := by simpa using q4
      have EQ : Hid (stepS s ⟨rk, rsq, rb⟩ = s) := by show stepS _ _ = _; unfold stepS; simp [q2, q3, q4]
      -- s the new state, A', n', c' its slice with commas, OS ok fact, EQ equation stepS .. = new, SB state's block fact, HM.out checkpoint fact, RB result's block fact, HK keeping
      go_wp2
      go_roundw
      case rel => exact ⟨i + 1, s, A', n', c', by omega, by go_num, OS.out, by (have h := HF2.out; rw [EQ.out] at h; exact h), SB.out, HM.out, RB.out, HK.out⟩
      case measure => simp [intOf]; omega
    · obtain rfl : i = n := by omega
      have EQ : Hid (foldS (rs.map RV.r) = s) := by
        show _ = _
        rw [← HF.out, List.drop_eq_nil_of_le (by rw [List.length_map, HL.out]; exact Nat.le_refl _)]
        rfl
      clear HF
      go_wp2_with (first | (refine wpList_load_blk (b := sb) (o := 0) (ds := s.cs A' n' c') SB.out (fun j v hv => by rw [Nat.zero_add]; exact hv) rfl rfl rfl Try.underlying39 rfl (by rw [St.cs_len OS.out]; exact st_size) ?_) | (refine wpList_store_blk (b := w.heap.size) (o := 0) (ds := s.cs A' n' c') RB.out (by rw [St.cs_len OS.out, St.cs_len stZ_ok]; decide) (St.cs_one _ _ _ _) rfl rfl rfl rfl (by rw [St.cs_len OS.out]; exact st_size) ?_))
      intro wz hbz hkz
      rw [splice_all (by rw [St.cs_len OS.out, St.cs_len stZ_ok])] at hbz
      have HBZ := Lib.hid hbz
      have HKZ := Lib.hid (HK.out.trans hkz (T := None) (fun _ h => h) (fun b hb e => absurd e (by omega)))
      have HMZ := Lib.hid (HM.out.keeps hkz (fun b hb e => by have h1 := hb.1; omega))
      clear hbz hkz
      go_wp2
      refine bodyPost_ret (cell_res1 rfl _ HBZ.out Try.underlying39 rfl (by rw [St.cs_len OS.out]; exact st_size) rfl) rfl ?_
      exact ⟨A', n', c', by rw [EQ.out]; rfl, by rw [EQ.out]; exact HMZ.out.mono (fun b hb => .inr (by have h1 := hb.1; omega)), HKZ.out⟩
end Go.Proofs.Ytfldgaiiniknpaa
