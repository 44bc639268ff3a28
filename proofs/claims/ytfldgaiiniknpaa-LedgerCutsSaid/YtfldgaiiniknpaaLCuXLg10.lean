
/- The walk of ledger's Records. -/
import Derived.Test.YtfldgaiiniknpaaLCuXLg9
namespace Go.Proofs.Ytfldgaiiniknpaa
open Go.RowKit

theorem Copied.later {w a a' : World} {v : Value} {rs : List RV} (h : Copied w a v rs) (k : Keeps None a a') : Copied w a' v rs := ⟨h.o.later k, h.bd.later k, h.k.trans k (fun _ h => h) (fun _ _ h => h)⟩
theorem Copied.none (w : World) : Copied w w (.slice none 0 0) [] := ⟨OwnR.nil _ _, Bds.nil _ _, Keeps.refl _ _⟩
theorem Copied.push {w a w' : World} {v v' : Value} {rs : List RV} {r : RV} (h : Copied w a v rs) (hr : Bs a r.A r.b.length r.c r.b) (hp : ∀ b, r.at_ b → (w.heap.size ≤ b ∧ ¬ v.ownBlock = some b) ∧ b < a.heap.size)
    (o : OwnR w' w.heap.size v' (rs ++ [r])) (k : Keeps (fun k => v.ownBlock = some k) a w') (d : v'.ownBlock = v.ownBlock ∨ v'.ownBlock = some a.heap.size) : Copied w w' v' (rs ++ [r]) := by
  refine ⟨o, ⟨fun x hx => ?_, fun x hx b hb => ?_⟩, h.k.trans k (fun _ h => absurd h (fun h => h)) (fun b hb e => absurd (h.o.block e).1 (by omega))⟩
  · rcases List.mem_append.1 hx with h1 | h1
    · exact (h.bd.keeps k (fun b hb _ e => hb.2 e)).bs x h1
    · rw [List.mem_singleton.1 h1]
      exact hr.keeps k (fun b off hn _ e hs => (hp b ⟨off, by rw [hr.len]; exact hn, e⟩).1.2 hs)
  · have hq : (w.heap.size ≤ b ∧ ¬ v.ownBlock = some b) ∧ b < a.heap.size := by
      rcases List.mem_append.1 hx with h1 | h1
      · exact h.bd.p x h1 b hb
      · rw [List.mem_singleton.1 h1] at hb; exact hp b hb
    have := k.size
    refine ⟨⟨hq.1.1, fun e => ?_⟩, by omega⟩
    rcases d with d | d
    · exact hq.1.2 (d.symm.trans e)
    · rw [d] at e
      have := Option.some.inj e
      omega
/-- Bytes just made, as a record's body. -/
theorem own_at {w : World} {B : Nat} {A : Option Addr} {n c : Nat} {zs : List Int} {k s : Int} (h : Own w B (.slice A n c) zs) (hn : zs.length = n) : ∀ b, (⟨k, s, A, c, zs⟩ : RV).at_ b → B ≤ b ∧ b < w.heap.size := by
  rintro b ⟨off, h0, e⟩
  subst hn
  exact (chkV_own h).p b off h0 e
set_option maxRecDepth 100000 in
set_option maxHeartbeats 3200000 in
theorem lgrecs_any (s : St) (os : s.ok) (A : Option Addr) (n cap : Nat) (P : Nat → Prop) (w : World) (hk : ChkV w P A n cap s.k.mid) :
    Calls Try.prog 20 #[s.v A n cap] w fun e w' => ∃ v rs, e = .returned v ∧ Copied w w' v rs ∧ rs.map RV.r = recsS s := by
  have OS := Lib.hid os
  have HM := Lib.hid hk
  obtain ⟨w0, hw0⟩ : ∃ x, w.alloc (.cells (s.cs A n cap).toArray 39) = x := ⟨_, rfl⟩
  have SB : Hid (Blk w0 w.heap.size (s.cs A n cap) 39) := by rw [← hw0]; exact Blk.new w (s.cs A n cap) 39
  have KB : Hid (Keeps None w w0) := by rw [← hw0]; exact (Keeps.refl None w).alloc _
  have S0 : w.heap.size < w0.heap.size := SB.out.lt
  have PC := Lib.hid (fun w => lgputc_any s.c os.c w)
  have PK := Lib.hid (fun w h => lgputk_any s.k os.k A n cap w h)
  unfold Com.v at PC
  unfold Chk.v at PK
  unfold St.v
  have RS : Hid (recsS s = (if 0 < (comL s.c).length then [⟨2, 0, comL s.c⟩] else []) ++ (if s.has = true ∧ 0 < (chkL s.k).length then [⟨3, 0, chkL s.k⟩] else [])) := rfl
  obtain ⟨V, hV⟩ : ∃ V, (s.cs A n cap).toArray = V := ⟨_, rfl⟩
  rw [hV] at hw0 ⊢
  clear hV os hk
  go_enter Try.func20, Try.ntmps20
  go_wp2_with (refine wpList_load_blk (b := w.heap.size) (o := 0) (ds := s.c.cs) SB.out (fun j v hv => by rw [Nat.zero_add]; exact St.cs_com OS.out A n cap j v hv) rfl rfl rfl Try.underlying25 rfl (by rw [Com.cs_len OS.out.c]; exact com_size) ?_)
  go_wp2_with fail
  refine (PC.out _).mono ?_
  rintro e w1 ⟨v1, rfl, o1, k1⟩
  obtain ⟨A1, c1, rfl, b1, -⟩ := o1.shape
  have q1 := b1.le
  have q2 := b1.max
  obtain ⟨cl, hcl⟩ : ∃ x, Hid ((comL s.c).length = x) := ⟨_, rfl⟩
  rw [hcl.out] at o1 q1 b1 ⊢
  have B1 := Lib.hid b1
  rw [hcl.out] at RS
  have O1 := Lib.hid o1
  have SB1 := Lib.hid (k1.blk SB.out (fun h => h))
  have KB1 := Lib.hid (KB.out.trans k1 (T := None) (fun _ h => h) (fun _ _ h => h))
  have CP0 : Hid (Copied w w1 (.slice none 0 0) []) := (Copied.none w).later KB1.out
  have HW0 := Lib.hid hw0
  clear o1 b1 k1 SB KB hw0
  by_cases g1 : 0 < cl
  · have d1 : decide (0 < (cl : Int)) = true := decide_eq_true (by omega)
    rw [if_pos g1] at RS
    -- 2 kind, comL s.c bytes, hcl their length's name, 2 the new names' mark, CP0 Copied so far, none 0 0 the slice so far (A n c), O1 own fact of the bytes, A1, c1 its slice (A c)
    go_wp2_with (at_builtin; refine Hid.out ?_)
    refine Lib.hid ?_
    refine wpList_append_recs (ns := [⟨2, 0, A1, c1, comL s.c⟩]) (CP0.out.later ((Keeps.refl None _).alloc _)).o (Rws.one _ (by
      show Blk _ _ [.int .i64 2, .int .i64 0, .slice _ _ _] _
      rw [hcl.out]
      exact Blk.new _ [.int .i64 2, .int .i64 0, .slice _ _ _] 58)) (by simp) (Nat.le_trans CP0.out.k.size (by simp)) (by rfl) (by rfl) (by rfl) (by rfl) (by rfl) ?_
    intro v2 w2 o2 k2 d2
    have CP2 := Lib.hid ((CP0.out.later ((Keeps.refl None w1).alloc (.cells #[.int .i64 2, .int .i64 0, .slice A1 cl c1] 58))).push (r := ⟨2, 0, A1, c1, comL s.c⟩) (by show Bs _ A1 (comL s.c).length c1 _; rw [hcl.out]; exact B1.out.keeps ((Keeps.refl None w1).alloc _) (fun _ _ _ _ _ h => h)) (fun b hb => by
      have h1 := own_at (O1.out.alloc (.cells #[.int .i64 2, .int .i64 0, .slice A1 cl c1] 58)) hcl.out b hb
      exact ⟨⟨by omega, fun e => by cases e⟩, h1.2⟩) o2 k2 d2)
    have KK : Hid (Keeps None w1 w2) := ((Keeps.refl None w1).alloc _).trans k2 (fun _ h => h) (fun b hb e => by cases e)
    obtain ⟨wq, rfl⟩ : ∃ x, x = w2 := ⟨_, rfl⟩
    have SBq := Lib.hid (KK.out.blk SB1.out (fun h => h))
    have HMq := Lib.hid ((HM.out.later KB1.out).later KK.out)
    obtain ⟨A2, c2, rfl, r2, -⟩ := o2.shape
    have q3 := r2.le
    have q4 := r2.max
    have CPq := CP2
    clear o2 k2 d2 r2 CP2 CP0 SB1 KB1 KK O1 B1 d1
    -- A2 1 c2 the slice so far, #2 its records, #3 their words
    go_wp2_with (refine wpList_load_blk (b := w.heap.size) (o := 69) (ds := s.k.cs A n cap) SBq.out (fun j v hv => St.cs_chk OS.out A n cap j v hv) rfl rfl rfl Try.underlying29 rfl (by rw [Chk.cs_len OS.out.k]; exact chk_size) ?_)
    go_wp2_with fail
    refine (PK.out _ HMq.out.b).mono ?_
    rintro e w5 ⟨v5, rfl, o5, k5⟩
    obtain ⟨A5, c5, rfl, b5, -⟩ := o5.shape
    have q5 := b5.le
    have q6 := b5.max
    obtain ⟨kl, hkl⟩ : ∃ x, Hid ((chkL s.k).length = x) := ⟨_, rfl⟩
    rw [hkl.out] at o5 q5 b5 ⊢
    rw [hkl.out] at RS
    have O5 := Lib.hid o5
    have B5 := Lib.hid b5
    have x68 := (k5.blk SBq.out (fun h => h)).cellD 68 _ (St.cs_has OS.out A n cap)
    have CP5 := Lib.hid (CPq.out.later k5)
    have OWN5 : Hid (∀ b, (Value.slice A2 1 c2).ownBlock = some b → b < wq.heap.size) := fun b e => (CPq.out.o.block e).2
    have SZ5 : w.heap.size ≤ wq.heap.size := CPq.out.k.size
    clear o5 b5 k5 SBq HMq CPq
    obtain ⟨hs, HHS⟩ : ∃ b, Hid (s.has = b) := ⟨_, rfl⟩
    rw [HHS.out] at x68 RS
    cases hs with
    | false =>
      first | rw [if_neg (by simp), List.append_nil] at RS | rw [if_neg (by simp)] at RS
      go_wp2
      go_ret
      exact ⟨_, _, rfl, CP5.out, RS.out.symm⟩
    | true =>
      by_cases g2 : 0 < kl
      case neg =>
        have d2 : decide (0 < (kl : Int)) = false := decide_eq_false (by omega)
        first | rw [if_neg (by simp; omega), List.append_nil] at RS | rw [if_neg (by simp; omega)] at RS
        go_wp2
        go_ret
        exact ⟨_, _, rfl, CP5.out, RS.out.symm⟩
      have d2 : decide (0 < (kl : Int)) = true := decide_eq_true (by omega)
      rw [if_pos ⟨rfl, g2⟩] at RS
      -- 3 kind, chkL s.k bytes, hkl their length's name, 6 the new names' mark, CP5 Copied so far, A2 1 c2 the slice so far (A n c), O5 own fact of the bytes, A5, c5 its slice (A c)
      go_wp2_with (at_builtin; refine Hid.out ?_)
      refine Lib.hid ?_
      refine wpList_append_recs (ns := [⟨3, 0, A5, c5, chkL s.k⟩]) (CP5.out.later ((Keeps.refl None _).alloc _)).o (Rws.one _ (by
        show Blk _ _ [.int .i64 3, .int .i64 0, .slice _ _ _] _
        rw [hkl.out]
        exact Blk.new _ [.int .i64 3, .int .i64 0, .slice _ _ _] 58)) (by simp) (Nat.le_trans CP5.out.k.size (by simp)) (by rfl) (by rfl) (by rfl) (by rfl) (by rfl) ?_
      intro v6 w6 o6 k6 d6
      have CP6 := Lib.hid ((CP5.out.later ((Keeps.refl None w5).alloc (.cells #[.int .i64 3, .int .i64 0, .slice A5 kl c5] 58))).push (r := ⟨3, 0, A5, c5, chkL s.k⟩) (by show Bs _ A5 (chkL s.k).length c5 _; rw [hkl.out]; exact B5.out.keeps ((Keeps.refl None w5).alloc _) (fun _ _ _ _ _ h => h)) (fun b hb => by
        have h1 := own_at (O5.out.alloc (.cells #[.int .i64 3, .int .i64 0, .slice A5 kl c5] 58)) hkl.out b hb
        exact ⟨⟨by omega, fun e => by have := OWN5.out b e; omega⟩, h1.2⟩) o6 k6 d6)
      clear o6 k6 d6 CP5 B5 O5 x68
      go_wp2
      go_ret
      exact ⟨_, _, rfl, CP6.out, by rw [RS.out, List.map_append]; rfl⟩
  · have d1 : decide (0 < (cl : Int)) = false := decide_eq_false (by omega)
    rw [if_neg g1, List.nil_append] at RS
    have HMq := Lib.hid (HM.out.later KB1.out)
    have SBq := SB1
    have CPq := CP0
    obtain ⟨wq, rfl⟩ : ∃ x, x = w1 := ⟨_, rfl⟩
    clear CP0 SB1 KB1 O1 B1
    -- none 0 0 the slice so far, #2 its records, #3 their words
    go_wp2_with (refine wpList_load_blk (b := w.heap.size) (o := 69) (ds := s.k.cs A n cap) SBq.out (fun j v hv => St.cs_chk OS.out A n cap j v hv) rfl rfl rfl Try.underlying29 rfl (by rw [Chk.cs_len OS.out.k]; exact chk_size) ?_)
    go_wp2_with fail
    refine (PK.out _ HMq.out.b).mono ?_
    rintro e w5 ⟨v5, rfl, o5, k5⟩
    obtain ⟨A5, c5, rfl, b5, -⟩ := o5.shape
    have q5 := b5.le
    have q6 := b5.max
    obtain ⟨kl, hkl⟩ : ∃ x, Hid ((chkL s.k).length = x) := ⟨_, rfl⟩
    rw [hkl.out] at o5 q5 b5 ⊢
    rw [hkl.out] at RS
    have O5 := Lib.hid o5
    have B5 := Lib.hid b5
    have x68 := (k5.blk SBq.out (fun h => h)).cellD 68 _ (St.cs_has OS.out A n cap)
    have CP5 := Lib.hid (CPq.out.later k5)
    have OWN5 : Hid (∀ b, (Value.slice none 0 0).ownBlock = some b → b < wq.heap.size) := fun b e => (CPq.out.o.block e).2
    have SZ5 : w.heap.size ≤ wq.heap.size := CPq.out.k.size
    clear o5 b5 k5 SBq HMq CPq
    obtain ⟨hs, HHS⟩ : ∃ b, Hid (s.has = b) := ⟨_, rfl⟩
    rw [HHS.out] at x68 RS
    cases hs with
    | false =>
      first | rw [if_neg (by simp), List.append_nil] at RS | rw [if_neg (by simp)] at RS
      go_wp2
      go_ret
      exact ⟨_, _, rfl, CP5.out, RS.out.symm⟩
    | true =>
      by_cases g2 : 0 < kl
      case neg =>
        have d2 : decide (0 < (kl : Int)) = false := decide_eq_false (by omega)
        first | rw [if_neg (by simp; omega), List.append_nil] at RS | rw [if_neg (by simp; omega)] at RS
        go_wp2
        go_ret
        exact ⟨_, _, rfl, CP5.out, RS.out.symm⟩
      have d2 : decide (0 < (kl : Int)) = true := decide_eq_true (by omega)
      rw [if_pos ⟨rfl, g2⟩] at RS
      -- 3 kind, chkL s.k bytes, hkl their length's name, 6 the new names' mark, CP5 Copied so far, none 0 0 the slice so far (A n c), O5 own fact of the bytes, A5, c5 its slice (A c)
      go_wp2_with (at_builtin; refine Hid.out ?_)
      refine Lib.hid ?_
      refine wpList_append_recs (ns := [⟨3, 0, A5, c5, chkL s.k⟩]) (CP5.out.later ((Keeps.refl None _).alloc _)).o (Rws.one _ (by
        show Blk _ _ [.int .i64 3, .int .i64 0, .slice _ _ _] _
        rw [hkl.out]
        exact Blk.new _ [.int .i64 3, .int .i64 0, .slice _ _ _] 58)) (by simp) (Nat.le_trans CP5.out.k.size (by simp)) (by rfl) (by rfl) (by rfl) (by rfl) (by rfl) ?_
      intro v6 w6 o6 k6 d6
      have CP6 := Lib.hid ((CP5.out.later ((Keeps.refl None w5).alloc (.cells #[.int .i64 3, .int .i64 0, .slice A5 kl c5] 58))).push (r := ⟨3, 0, A5, c5, chkL s.k⟩) (by show Bs _ A5 (chkL s.k).length c5 _; rw [hkl.out]; exact B5.out.keeps ((Keeps.refl None w5).alloc _) (fun _ _ _ _ _ h => h)) (fun b hb => by
        have h1 := own_at (O5.out.alloc (.cells #[.int .i64 3, .int .i64 0, .slice A5 kl c5] 58)) hkl.out b hb
        exact ⟨⟨by omega, fun e => by have := OWN5.out b e; omega⟩, h1.2⟩) o6 k6 d6)
      clear o6 k6 d6 CP5 B5 O5 x68
      go_wp2
      go_ret
      exact ⟨_, _, rfl, CP6.out, by rw [RS.out, List.map_append]; rfl⟩
end Go.Proofs.Ytfldgaiiniknpaa
