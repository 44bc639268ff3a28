
/- The reference's Lz: the walk of Feed; the program's state goes along. -/
import Derived.Test.YtnanbnaikmaljaaLzPXRZP2
import Derived.Test.YtnanbnaikmaljaaLzPXStrEq
namespace Go.Proofs.Ytnanbnaikmaljaa
open Go.RowKit

def RzFed (w : World) (L : RZL) (v : Value) (n : Nat) (zs : List Int) (res : LzS × List Int × List Int) (e : Ending) (w' : World) : Prop :=
  ∃ (i : Nat) (ov v' : Value) (r' : RZ), i ≤ n ∧ res.2.1 = zs.drop i ∧ e = .returned (.tuple #[.int .i64 (i : Int), ov]) ∧ RZAt w' L v' r' ∧ ZRel res.1 r' ∧ PP res.1.s.m ∧ Own w' w.heap.size ov res.2.2 ∧ (∀ b, v'.ownBlock = some b → v.ownBlock = some b ∨ w.heap.size ≤ b) ∧ Keeps (RZB L v) w w'
theorem ZRel.state {z : LzS} {r : RZ} (h : ZRel z r) (x : Int) : ZRel { z with st := x } { r with st := x } :=
  ⟨h.d, h.ms, h.out, h.total, rfl, h.todo, h.part, h.node, h.node4, h.t1, h.t3, h.t4, h.cur⟩
theorem ZRel.byte {z : LzS} {r : RZ} (h : ZRel z r) (d : DSt) : ZRel { z with d := d } { r with d := d } :=
  ⟨rfl, h.ms, h.out, h.total, h.st, h.todo, h.part, h.node, h.node4, h.t1, h.t3, h.t4, h.cur⟩
theorem Own.blockB {w : World} {B : Nat} {v : Value} {zs : List Int} (h : Own w B v zs) {b : Nat} (hb : v.ownBlock = some b) : B ≤ b ∧ b < w.heap.size := by
  rcases h.1.2 with ⟨rfl, _⟩ | ⟨g, cap, cur, rfl, hg, hgg, _⟩
  · cases hb
  · obtain rfl : g = b := by simpa [Value.ownBlock] using hb
    exact ⟨hg, (Array.getElem?_eq_some_iff.1 hgg).1⟩
theorem RZAt.less {w : World} {L : RZL} {v : Value} {r : RZ} (h : RZAt w L v r) : L.zb < w.heap.size := h.cc.lt
theorem RZAt.grow {w w4 : World} {L : RZL} {v v2 : Value} {r : RZ} {out' : List Int} (h : RZAt w L v r) (k : Keeps (fun k => v.ownBlock = some k) w w4) (o : Own w4 (L.zb + 1) v2 out') : RZAt (w4.setCell ⟨L.zb, 2, none⟩ v2) L v2 { r with out := out' } := by
  have nb : ∀ b, v.ownBlock = some b → L.zb + 1 ≤ b := fun b hb => (h.ow.blockB hb).1
  obtain ⟨o1, o2, o3, o4, o5, o6, o7⟩ := h.ord
  have ks := (Keeps.self L.zb w4).put 2 v2
  have KK : Keeps (fun b => v.ownBlock = some b ∨ b = L.zb) w (w4.setCell ⟨L.zb, 2, none⟩ v2) := k.trans ks (fun _ h => .inl h) (fun _ _ h => .inr h)
  have no : ∀ b, b < L.zb → ¬ (v.ownBlock = some b ∨ b = L.zb) := fun b hb e => by
    rcases e with e | e
    · have := nb b e; omega
    · omega
  exact ⟨(k.blk h.cc (fun e => by have := nb _ e; omega)).set 2 v2, o.keeps ks (fun b hb e => o.notBelow (i := b) (by have e : b = L.zb := e; omega) hb), h.dc.keeps KK (no _ (by omega)), h.t1.keeps KK (no _ (by omega)) (no _ (by omega)), h.t2.keeps KK (no _ (by omega)) (no _ (by omega)), h.t3.keeps KK (no _ (by omega)) (no _ (by omega)), h.ord⟩
theorem ZRel.next {z : LzS} {r : RZ} (h : ZRel z r) (hl : 0 < z.left) : ZRel (lzNextS z) { r with out := z.h ++ [lzByte z], todo := z.left - 1 } :=
  ⟨h.d, h.ms, rfl, h.total, h.st, rfl, h.part, h.node, h.node4, h.t1, h.t3, h.t4, fun _ => h.cur hl⟩
set_option maxRecDepth 100000 in
set_option maxHeartbeats 3200000 in
theorem rlzfeed_any (L : RZL) (v : Value) (z : LzS) (r : RZ) (A : Option Addr) (n cap : Nat) (zs : List Int) (room : Int) (w : World) (h : RZAt w L v r) (rel : ZRel z r) (ok : LzOk z) (pp : PP z.s.m) (hb : Bs w A n cap zs) (nb : 0 < n → ∀ b off, A = some ⟨b, off, none⟩ → ¬ RZB L v b) (hr : -9223372036854775808 ≤ room ∧ room ≤ 9223372036854775807) :
    Calls Try.prog 18 #[.pointer (some ⟨L.zb, 0, none⟩), .slice A n cap, .int .i64 room] w (RzFed w L v n zs (lzF room (lzM z n + 1) z zs [])) := by
  have hle := hb.le
  have hmx := hb.max
  have HB := Lib.hid hb
  have HL := Lib.hid hb.len
  have HN := Lib.hid nb
  have BEL := Lib.hid h.less
  have OBV : Hid (∀ b, v.ownBlock = some b → b < w.heap.size) := fun b hb => (h.ow.blockB hb).2
  obtain ⟨hr1, hr2⟩ := hr
  obtain ⟨res, hres⟩ : ∃ x, lzF room (lzM z n + 1) z zs [] = x := ⟨_, rfl⟩
  rw [hres]
  obtain ⟨rz, ry, ro⟩ := res
  have ORD := Lib.hid h.ord
  have START := Lib.hid (show lzF room (lzM z n + 1) z (zs.drop 0) [] = (rz, ry, ro) ∧ RZAt w L v r ∧ ZRel z r ∧ LzOk z ∧ PP z.s.m from ⟨hres, h, rel, ok, pp⟩)
  clear h ok hb nb hres rel pp
  go_enter Try.func18, Try.ntmps18
  go_wp2
  go_loopg [8, 9] (lzM z n + 1) (fun g uv ov wr => ∃ (z : LzS) (r : RZ) (i : Nat) (out : List Int) (v' : Value), uv = .int .i64 (i : Int) ∧ i ≤ n ∧ lzM z (n - i) < g ∧ lzF room g z (zs.drop i) out = (rz, ry, ro) ∧ ZRel z r ∧ LzOk z ∧ PP z.s.m ∧ RZAt wr L v' r ∧ Own wr w.heap.size ov out ∧ out.length ≤ z.h.length ∧ (∀ b, v'.ownBlock = some b → ¬ ov.ownBlock = some b) ∧ (∀ b, v'.ownBlock = some b → v.ownBlock = some b ∨ w.heap.size ≤ b) ∧ Keeps (RZB L v) w wr)
  case atStart => exact ⟨z, r, 0, [], v, rfl, Nat.zero_le _, by rw [Nat.sub_zero]; omega, START.out.1, START.out.2.2.1, START.out.2.2.2.1, START.out.2.2.2.2, START.out.2.1, Own.nil _ _, Nat.zero_le _, (fun _ _ e => by cases e), (fun b hb => .inl hb), Keeps.refl _ _⟩
  case round =>
    clear START z r
    obtain ⟨z, r, i, out, v', rfl, hin, hg, hf, hrel, hok, hpp, hz, ho, hol, hne, hnv, hk⟩ := hrel
    obtain ⟨G, rfl⟩ : ∃ G, gk = G + 1 := ⟨gk - 1, by omega⟩
    obtain ⟨wv, rfl⟩ : ∃ x, x = wr := ⟨_, rfl⟩
    obtain ⟨A2, c2, rfl, b2, -⟩ := ho.shape
    have m2 := b2.max
    have e2 := b2.le
    obtain ⟨A7, c7, rfl, b7, -⟩ := hz.ow.shape
    have m7 := b7.max
    have e7 := b7.le
    clear b2 b7
    have HZ := Lib.hid hz
    have RL := Lib.hid hrel
    have OK := Lib.hid hok
    have PPP := Lib.hid hpp
    have HO := Lib.hid ho
    have HK := Lib.hid hk
    have HG := Lib.hid hg
    have HF := Lib.hid hf
    have NE := Lib.hid hne
    have NV := Lib.hid hnv
    have HH : Hid (out.length ≤ z.h.length) := hol
    have h8 : out.length ≤ 8192 := by have := hok.hp; have := hok.p8; omega
    have HS1 := hok.st1
    have HS4 := hok.st4
    have hrel0 : r.out.length = z.h.length := by rw [hrel.out]
    clear hg hf hz hok hpp ho hol hk hrel hne hnv
    have c1 : wv.cell? ⟨L.zb, 1, none⟩ = some (.int .i64 z.st) := by rw [← RL.out.st]; exact HZ.out.cc.cellD 1 _ rfl
    have f1 := HZ.out.cc.frozen 1
    rw [hrel0] at HZ NE NV e7
    obtain ⟨v', hv'⟩ : ∃ x, Value.slice A7 z.h.length c7 = x := ⟨_, rfl⟩
    have HV := Lib.hid hv'
    rw [hv'] at HZ NE NV
    have cO : wv.cell? ⟨L.zb, 2, none⟩ = some (.slice A7 z.h.length c7) := by rw [HV.out]; exact HZ.out.cc.cellD 2 _ rfl
    have c0 : wv.cell? ⟨L.zb, 0, none⟩ = some (.int .i64 (z.plain : Int)) := by rw [← RL.out.total]; exact HZ.out.cc.cellD 0 _ rfl
    have c16 : wv.cell? ⟨L.zb, 16, none⟩ = some (.int .i64 z.left) := by rw [← RL.out.todo]; exact HZ.out.cc.cellD 16 _ rfl
    clear hv'
    have hz8 : z.h.length ≤ 8192 := by have := OK.out.hp; have := OK.out.p8; omega
    have c3 : wv.cell? ⟨L.zb, 3, none⟩ = some (.pointer (some ⟨L.db, 0, none⟩)) := HZ.out.cc.cellD 3 _ rfl
    have c2d : wv.cell? ⟨L.db, 2, none⟩ = some (.int .i64 z.d.n) := by rw [← RL.out.d]; exact HZ.out.dc.cellD 2 _ rfl
    by_cases s3 : z.st = 3
    · have RES : Hid ((rz, ry, ro) = (z, zs.drop i, out)) := by show _ = _; rw [← HF.out]; unfold lzF; rw [if_pos (.inl s3)]
      rw [s3] at c1
      clear HF
      -- the return: 1 RZAt, 2 ZRel, 3 PP, 4 Own, 5 Keeps
      go_wp2
      all_goals try rw [Exit.noGoto_ret]
      go_ret2
      exact ⟨i, _, _, _, hin, by rw [RES.out], by first | rfl | simp, HZ.out, by rw [RES.out]; exact RL.out, by rw [RES.out]; exact PPP.out, by rw [RES.out]; exact HO.out, NV.out, HK.out⟩
    by_cases s4 : z.st = 4
    · have RES : Hid ((rz, ry, ro) = (z, zs.drop i, out)) := by show _ = _; rw [← HF.out]; unfold lzF; rw [if_pos (.inr s4)]
      rw [s4] at c1
      clear HF
      -- the return: 1 RZAt, 2 ZRel, 3 PP, 4 Own, 5 Keeps
      go_wp2
      all_goals try rw [Exit.noGoto_ret]
      go_ret2
      exact ⟨i, _, _, _, hin, by rw [RES.out], by first | rfl | simp, HZ.out, by rw [RES.out]; exact RL.out, by rw [RES.out]; exact PPP.out, by rw [RES.out]; exact HO.out, NV.out, HK.out⟩
    have q3 : (z.st == 3) = false := by simpa using s3
    have q3b : (z.st != 3) = true := by simpa using s3
    have q4 : (z.st == 4) = false := by simpa using s4
    have q4b : (z.st != 4) = true := by simpa using s4
    have HF1 : Hid ((rz, ry, ro) = (if dNeedB z.d = true then
      match zs.drop i with
      | [] => ({ z with st := 1 }, [], out)
      | y :: ys => lzF room G { z with d := dByteS z.d y } ys out
    else if dLostB z.d = true then lzF room G { z with st := 4 } (zs.drop i) out
    else if 0 < z.left then
      if room ≤ out.length then ({ z with st := 2 }, zs.drop i, out)
      else lzF room G (lzNextS z) (zs.drop i) (out ++ [lzByte z])
    else if z.h.length = z.plain then lzF room G { z with st := lzEndV z } (zs.drop i) out
    else if lzTakeB z = true then lzF room G (lzTakeS z) (zs.drop i) out
    else lzF room G { lzTakeS z with st := 4 } (zs.drop i) out)) := by
      show _ = _
      rw [← HF.out]
      conv => lhs; unfold lzF
      rw [if_neg (by rintro (h | h); exact s3 h; exact s4 h)]
      rfl
    have TM : Hid (¬ (z.st = 3 ∨ z.st = 4)) := by show ¬ _; rintro (h | h); exact s3 h; exact s4 h
    clear HF
    have PUT1 : Hid (∀ (wx : World) (x : Int), RZAt wx L v' r → RZAt (wx.setCell ⟨L.zb, 1, none⟩ (.int .i64 x)) L v' { r with st := x }) := fun wx x hh => hh.put (z' := { r with st := x }) 1 _ rfl rfl rfl rfl rfl rfl
    have OZ : Hid (∀ k, RZC L k → k < w.heap.size) := fun k hk => by have := BEL.out; have h2 : k ≤ L.zb := hk.2; omega
    have NOL : Hid (∀ k, RZC L k → ¬ (Value.slice A2 out.length c2).ownBlock = some k) := fun k hk => HO.out.notBelow (OZ.out k hk)
    have LO := Lib.hid (fun w' (h' : RZAt w' L v' r) => rdlost_any L.db r.d w' h'.dc)
    rw [RL.out.d] at LO
    cases hnd : dNeedB z.d with
    | true =>
      have nd : decide (0 < z.d.n) = true := hnd
      clear LO
      by_cases hi : i = n
      · subst hi
        have hdr : zs.drop i = [] := List.drop_eq_nil_of_le (by rw [HL.out]; exact Nat.le_refl _)
        have RES : Hid ((rz, ry, ro) = ({ z with st := 1 }, zs.drop i, out)) := by show _ = _; rw [HF1.out, if_pos hnd, hdr]
        have KK := (Keeps.self L.zb wv).put 1 (.int .i64 1)
        have KS := Lib.hid (HK.out.trans KK (T := RZB L v) (fun _ h => h) (fun k _ e => .inl (by have e : k = L.zb := e; have := ORD.out; exact ⟨by obtain ⟨o1, o2, o3, o4, o5, o6, o7⟩ := this; omega, by omega⟩)))
        have OS := Lib.hid (HO.out.keeps KK (fun b hb e => NOL.out L.zb (by obtain ⟨o1, o2, o3, o4, o5, o6, o7⟩ := ORD.out; exact ⟨by omega, Nat.le_refl _⟩) (by have e : b = L.zb := e; rw [← e]; exact hb)))
        have ST := Lib.hid (PUT1.out wv 1 HZ.out)
        have RS := Lib.hid (RL.out.state 1)
        clear hnd HF1 KK
        -- the return: 1 RZAt, 2 ZRel, 3 PP, 4 Own, 5 Keeps
        go_wp2
        all_goals try rw [Exit.noGoto_ret]
        go_ret2
        exact ⟨i, _, _, _, hin, by rw [RES.out], by first | rfl | simp, ST.out, by rw [RES.out]; exact RS.out, by rw [RES.out]; exact PPP.out, by rw [RES.out]; exact OS.out, NV.out, KS.out⟩
      · have hlt : i < n := by omega
        have qi : ((i : Int) == (n : Int)) = false := by simp; omega
        have hnb : ∀ b off, 0 < n → b < w.heap.size → A = some ⟨b, off, none⟩ → ¬ RZB L v b := fun b off h0 _ e hk => HN.out h0 b off e hk
        obtain ⟨bl, of1, y, rfl, hy, hya, hyb, hc⟩ := (HB.out.keeps HK.out hnb).get hlt
        have hdr : zs.drop i = y :: zs.drop (i + 1) := by
          rw [List.drop_eq_getElem_cons (by rw [HL.out]; exact hlt)]
          congr 1
          rw [← hy]; simp [List.getD, HL.out, hlt]
        have RR : Hid ((rz, ry, ro) = lzF room G { z with d := dByteS z.d y } (zs.drop (i + 1)) out) := by show _ = _; rw [HF1.out, if_pos hnd, hdr]
        have BY := Lib.hid (fun w' (h' : RZAt w' L v' r) => rdbyte_any L.db r.d y w' h'.dc (by rw [RL.out.d]; exact OK.out.dok.inv) ⟨hya, hyb⟩)
        rw [RL.out.d] at BY
        have ME : Hid (lzM { z with d := dByteS z.d y } (n - (i + 1)) < G) := by
          have h1 := lzM_byte z (dByteS z.d y) (n - (i + 1)) TM.out
          rw [show n - (i + 1) + 1 = n - i by omega] at h1
          have h2 := HG.out
          show _ < _
          omega
        have OK2 := Lib.hid (OK.out.byte y ⟨hya, hyb⟩)
        clear hnd HF1 hdr hy
        go_wp2
        obtain ⟨m7S, m7h⟩ : ∃ S : World → Prop, ∀ w', S w' ↔ (w'.cell? ⟨L.zb, 3, none⟩ = some (.pointer (some ⟨L.db, 0, none⟩)) ∧ w'.cell? ⟨bl, of1 + i, none⟩ = some (.int .u8 y)) := ⟨_, fun _ => Iff.rfl⟩
        have m7k0 : ∀ x : Memb m7S, x.at_.cell? ⟨L.zb, 3, none⟩ = some (.pointer (some ⟨L.db, 0, none⟩)) := fun x => ((m7h _).1 x.is).1
        have m7k1 : ∀ x : Memb m7S, x.at_.cell? ⟨bl, of1 + i, none⟩ = some (.int .u8 y) := fun x => ((m7h _).1 x.is).2
        have m7n : Nonempty (Memb m7S) := ⟨⟨(wv).drew, (m7h _).2 ⟨c3, hc⟩⟩⟩
        have m7H := Lib.hid m7h
        clear m7h
        refine wp_region_mix [8] (InS m7S) (by kernel_rfl) (by kernel_rfl) (InS.mk ((m7H.out _).2 ⟨c3, hc⟩)) ?_
        refine wpMix_seg 8 (by kernel_rfl) (by decide) ?_
        simp only [List.take_succ_cons, List.take_zero, List.drop_succ_cons, List.drop_zero]
        repeat (go_big_quiet_step (fail))
        refine wpQuiet_nil ?_
        refine wpMix_eff (by kernel_rfl) ?_
        go_wp2_with fail
        refine (BY.out _ (HZ.out.later (Keeps.refl None wv).drew)).mono ?_
        rintro e w2 ⟨rfl, d2, k2⟩
        have K2 := Lib.hid ((Keeps.refl (fun k => k = L.db) wv).drew.trans k2 (T := fun k => k = L.db) (fun _ h => h) (fun _ _ h => h))
        obtain ⟨o1, o2, o3, o4, o5, o6, o7⟩ := ORD.out
        have q := HZ.out
        have Z2 : Hid (RZAt w2 L v' { r with d := dByteS z.d y }) := ⟨K2.out.blk q.cc (by show ¬ _ = _; omega), q.ow.keeps K2.out (fun b hb e => q.ow.notBelow (i := b) (by have e : b = L.db := e; omega) hb), d2, q.t1.keeps K2.out (by show ¬ _ = _; omega) (by show ¬ _ = _; omega), q.t2.keeps K2.out (by show ¬ _ = _; omega) (by show ¬ _ = _; omega), q.t3.keeps K2.out (by show ¬ _ = _; omega) (by show ¬ _ = _; omega), q.ord⟩
        clear q
        have DBC : Hid (RZC L L.db) := ⟨Nat.le_refl _, by omega⟩
        have O2 := Lib.hid (HO.out.keeps K2.out (fun b hb e => NOL.out L.db DBC.out (by have e : b = L.db := e; rw [← e]; exact hb)))
        have KW := Lib.hid (HK.out.trans K2.out (T := RZB L v) (fun _ h => h) (fun k _ e => .inl (by have e : k = L.db := e; rw [e]; exact DBC.out)))
        clear d2 k2 K2
        go_wp2
        refine MixK.last (by kernel_rfl) ?_
        refine wpMix_nil ?_
        clear m7k0 m7k1 m7n m7H
        go_wp2
        go_roundg G
        case measure => omega
        case rel => exact ⟨_, _, i + 1, out, v', by go_num, by omega, ME.out, RR.out.symm, RL.out.byte _, OK2.out, PPP.out, Z2.out, O2.out, HH.out, NE.out, NV.out, KW.out⟩
    | false =>
      have nd : decide (0 < z.d.n) = false := hnd
      have HF2 := Lib.hid (HF1.out.trans (if_neg (by rw [hnd]; decide)))
      clear HF1
      cases hlo : dLostB z.d with
      | true =>
        rw [hlo] at LO
        have RR : Hid ((rz, ry, ro) = lzF room G { z with st := 4 } (zs.drop i) out) := by show _ = _; rw [HF2.out, if_pos hlo]
        have ME : Hid (lzM { z with st := 4 } (n - i) < G) := by
          have h1 := lzM_end z 4 (n - i) (n - i) (.inr rfl) z TM.out
          have h2 := HG.out
          show _ < _
          omega
        have OK2 := Lib.hid (OK.out.set 4 (by decide) (by decide) s4)
        clear hnd hlo HF2
        go_wp2_with fail
        refine (LO.out _ HZ.out).mono ?_
        rintro e w' ⟨rfl, kk, rfl⟩
        have ZD := Lib.hid (HZ.out.later ((Keeps.refl None wv).drewN kk))
        have KK := Lib.hid ((Keeps.self L.zb (wv.drewN kk)).put 1 (.int .i64 4))
        have ZBC : Hid (RZC L L.zb) := by obtain ⟨o1, o2, o3, o4, o5, o6, o7⟩ := ORD.out; exact ⟨by omega, Nat.le_refl _⟩
        have KS := Lib.hid ((HK.out.drewN kk).trans KK.out (T := RZB L v) (fun _ h => h) (fun k _ e => .inl (by have e : k = L.zb := e; rw [e]; exact ZBC.out)))
        have OS := Lib.hid ((HO.out.drewN kk).keeps KK.out (fun b hb e => NOL.out L.zb ZBC.out (by have e : b = L.zb := e; rw [← e]; exact hb)))
        have ST := Lib.hid (PUT1.out _ 4 ZD.out)
        go_wp2
        go_roundg G
        case measure => omega
        case rel => exact ⟨_, _, i, out, v', rfl, hin, ME.out, RR.out.symm, RL.out.state 4, OK2.out, PPP.out, ST.out, OS.out, HH.out, NE.out, NV.out, KS.out⟩
      | false =>
        rw [hlo] at LO
        have HF3 := Lib.hid (HF2.out.trans (if_neg (by rw [hlo]; decide)))
        clear HF2
        have DM : Hid (dMayB z.d = true) := by
          have hn0 := OK.out.dok.inv.n0
          have h1 : ¬ 0 < z.d.n := of_decide_eq_false nd
          have h2 : ¬ (z.d.n = 0 ∧ z.d.w ≤ z.d.c) := of_decide_eq_false hlo
          exact decide_eq_true (by omega)
        clear hnd hlo
        by_cases hl : 0 < z.left
        · have d1 : decide (0 < z.left) = true := decide_eq_true hl
          have HF4 := Lib.hid (HF3.out.trans (if_pos hl))
          clear HF3
          by_cases hro : room ≤ (out.length : Int)
          · have d2 : decide (room ≤ (out.length : Int)) = true := decide_eq_true hro
            have RES : Hid ((rz, ry, ro) = ({ z with st := 2 }, zs.drop i, out)) := by show _ = _; rw [HF4.out, if_pos hro]
            clear HF4
            go_wp2_with fail
            refine (LO.out _ HZ.out).mono ?_
            rintro e w' ⟨rfl, kk, rfl⟩
            have ZD := Lib.hid (HZ.out.later ((Keeps.refl None wv).drewN kk))
            have KK := Lib.hid ((Keeps.self L.zb (wv.drewN kk)).put 1 (.int .i64 2))
            have ZBC : Hid (RZC L L.zb) := by obtain ⟨o1, o2, o3, o4, o5, o6, o7⟩ := ORD.out; exact ⟨by omega, Nat.le_refl _⟩
            have KS := Lib.hid ((HK.out.drewN kk).trans KK.out (T := RZB L v) (fun _ h => h) (fun k _ e => .inl (by have e : k = L.zb := e; rw [e]; exact ZBC.out)))
            have OS := Lib.hid ((HO.out.drewN kk).keeps KK.out (fun b hb e => NOL.out L.zb ZBC.out (by have e : b = L.zb := e; rw [← e]; exact hb)))
            have ST := Lib.hid (PUT1.out _ 2 ZD.out)
            -- the return: 1 RZAt, 2 ZRel, 3 PP, 4 Own, 5 Keeps
            go_wp2
            all_goals try rw [Exit.noGoto_ret]
            go_ret2
            exact ⟨i, _, _, _, hin, by rw [RES.out], by first | rfl | simp, ST.out, by rw [RES.out]; exact RL.out.state 2, by rw [RES.out]; exact PPP.out, by rw [RES.out]; exact OS.out, NV.out, KS.out⟩
          · have d2 : decide (room ≤ (out.length : Int)) = false := decide_eq_false hro
            have RR : Hid ((rz, ry, ro) = lzF room G (lzNextS z) (zs.drop i) (out ++ [lzByte z])) := by show _ = _; rw [HF4.out, if_neg hro]
            have ME : Hid (lzM (lzNextS z) (n - i) < G) := by
              have h1 := lzM_next (n - i) OK.out TM.out hl
              have h2 := HG.out
              show _ < _
              omega
            have OK2 := Lib.hid (OK.out.next s4 hl)
            have RN := Lib.hid (RL.out.next hl)
            have BB := Lib.hid (lzByte_b OK.out s4 hl)
            obtain ⟨cu1, cu2⟩ := RL.out.cur hl
            obtain ⟨l1, l2, l3, lb0, lb1⟩ := OK.out.lf s4 hl
            have c14 : wv.cell? ⟨L.zb, 14, none⟩ = some (.int .u8 z.t.b) := by rw [← cu2]; exact HZ.out.cc.cellD 14 _ rfl
            have c12 : wv.cell? ⟨L.zb, 12, none⟩ = some (.int .i64 z.t.n) := by rw [← cu2]; exact HZ.out.cc.cellD 12 _ rfl
            have c13 : wv.cell? ⟨L.zb, 13, none⟩ = some (.int .i64 z.t.d) := by rw [← cu2]; exact HZ.out.cc.cellD 13 _ rfl
            clear HF4 cu1 cu2
            by_cases hn : 0 < z.t.n
            · have dn : decide (0 < z.t.n) = true := decide_eq_true hn
              obtain ⟨k1, k2, k3⟩ := l3 hn
              obtain ⟨dd, hdd⟩ : ∃ dd : Nat, z.t.d = dd := ⟨z.t.d.toNat, by omega⟩
              rw [hdd] at c13 k1 k2 k3
              have bs : Bs wv A7 z.h.length c7 z.h := by have := HZ.out.ow; rw [← HV.out, RL.out.out] at this; exact own_bs this
              obtain ⟨bl, off, y, rfl, hy, ya, yb, hc⟩ := bs.get (i := z.h.length - dd) (by omega)
              have HY : Hid (lzByte z = y) := by
                show _ = _
                unfold lzByte backV
                rw [if_pos hn, hdd, if_pos ⟨k1, by omega⟩, Int.toNat_natCast]
                exact hy
              rw [HY.out] at RR BB RN
              obtain ⟨kk2, hkk2⟩ : ∃ kk2 : Nat, z.h.length - dd = kk2 := ⟨_, rfl⟩
              rw [hkk2] at hc
              have hix : (z.h.length : Int) - dd = (kk2 : Int) := by omega
              clear hy bs l3 hdd
              go_wp2_with fail
              refine (LO.out _ HZ.out).mono ?_
              rintro e w' ⟨rfl, kk, rfl⟩
              go_wp2_with fail
              go_quiet (fail)
              generalize hkq : (wv.drewN kk).drewN _ = wq
              have KQ : Hid (Keeps None wv wq) := by show Keeps _ _ _; rw [← hkq]; exact ((Keeps.refl None wv).drewN _).drewN _
              obtain ⟨bv, hbv⟩ : ∃ bv, y = bv := ⟨_, rfl⟩
              rw [hbv]
              rw [hbv] at RR BB RN
              have BB : Hid (0 ≤ bv ∧ bv ≤ 255) := BB
              -- the byte bv is in its slot, at world wq; some ⟨bl, off, none⟩ where Out lies
              have ZQ := Lib.hid (HZ.out.later KQ.out)
              have OW7 : Hid (Own wq (L.zb + 1) (.slice (some ⟨bl, off, none⟩) z.h.length c7) z.h) := by show Own _ _ _ _; have := ZQ.out.ow; rw [← HV.out, RL.out.out] at this; exact this
              have cq2 : wq.cell? ⟨L.zb, 2, none⟩ = some (.slice (some ⟨bl, off, none⟩) z.h.length c7) := by rw [HV.out]; exact ZQ.out.cc.cellD 2 _ rfl
              have ZBS : Hid (L.zb + 1 ≤ wq.heap.size) := ZQ.out.less
              go_wp2_with (at_builtin; refine Hid.out ?_)
              refine Lib.hid ?_
              refine wpList_append_bs_at (B := L.zb + 1) (OW7.out.alloc _) (Bs.oneAt wq _ rfl bv BB.out) (by omega) (Nat.le_trans ZBS.out ((Keeps.refl None wq).alloc _).size) rfl rfl rfl rfl rfl ?_
              intro v4 w4 o4 k4 hat4
              obtain ⟨A4, c4, rfl, b4, -⟩ := o4.shape
              have m4 := b4.max
              have e4 := b4.le
              obtain ⟨n4, hn4⟩ : ∃ n4, (z.h ++ [bv]).length = n4 := ⟨_, rfl⟩
              have n48 : n4 ≤ 8193 := by rw [← hn4, List.length_append]; show z.h.length + 1 ≤ _; omega
              rw [hn4] at e4 o4 hat4 ⊢
              clear b4 hn4
              rw [HV.out] at k4 hat4
              have K4 := Lib.hid (((Keeps.refl None wq).alloc (.cells #[.int .u8 bv] 5)).trans k4 (T := fun k => v'.ownBlock = some k) (fun _ h => h.elim) (fun k _ h => h))
              have AT4 : Hid (∀ b, (Value.slice A4 n4 c4).ownBlock = some b → v'.ownBlock = some b ∨ wq.heap.size ≤ b) := fun b hb => by
                rcases hat4 with e | e
                · exact .inl (e.symm.trans hb)
                · rw [hb] at e
                  have := Option.some.inj e
                  exact .inr (by rw [this]; exact ((Keeps.refl None wq).alloc (.cells #[.int .u8 bv] 5)).size)
              have Z5 := Lib.hid (ZQ.out.grow K4.out o4)
              have L4 : Hid (∀ b, (Value.slice A4 n4 c4).ownBlock = some b → b < w4.heap.size) := fun b hb => (o4.blockB hb).2
              clear o4 k4 hat4 cq2 OW7
              obtain ⟨w5, hw5⟩ : ∃ x, w4.setCell ⟨L.zb, 2, none⟩ (Value.slice A4 n4 c4) = x := ⟨_, rfl⟩
              have K5 : Hid (Keeps (fun k => k = L.zb) w4 w5) := by show Keeps _ _ _; rw [← hw5]; exact (Keeps.self L.zb w4).put 2 (Value.slice A4 n4 c4)
              have ZLT : Hid (L.zb < w.heap.size) := BEL.out
              have Y4 : Hid (w4.frozen? ⟨L.zb, 2, none⟩ = false) := (K4.out.blk ZQ.out.cc (fun e => by have := (ZQ.out.ow.blockB e).1; omega)).frozen 2
              rw [hw5] at Z5
              have E54 : Hid (w4.heap.size = w5.heap.size) := by show _ = _; rw [← hw5]; simp
              have f4 := Y4.out
              have y4 : ∃ x, w4.cell? ⟨L.zb, 2, none⟩ = some x := ⟨_, (K4.out.blk ZQ.out.cc (fun e => by have := (ZQ.out.ow.blockB e).1; omega)).cellD 2 _ rfl⟩
              obtain ⟨x4, y4⟩ := y4
              have NOA : Hid (∀ b, (Value.slice A4 n4 c4).ownBlock = some b → ¬ (Value.slice A2 out.length c2).ownBlock = some b) := fun b hb e => by
                rcases AT4.out b hb with h1 | h1
                · exact NE.out b h1 e
                · have h2 := (HO.out.blockB e).2
                  have h3 := KQ.out.size
                  omega
              have O5 : Hid (Own w5 w.heap.size (.slice A2 out.length c2) out) := ((HO.out.keeps KQ.out (fun _ _ h => h)).keeps K4.out (fun b hb e => NE.out b e hb)).keeps K5.out (fun b hb e => by have h1 := (HO.out.blockB hb).1; have e : b = L.zb := e; have := ZLT.out; omega)
              have SZ5 : Hid (w.heap.size ≤ w5.heap.size) := Nat.le_trans (Nat.le_trans HK.out.size KQ.out.size) (Nat.le_trans K4.out.size K5.out.size)
              have KW5 : Hid (Keeps (RZB L v) w w5) := ((HK.out.trans KQ.out (T := RZB L v) (fun _ h => h) (fun _ _ h => h.elim)).trans K4.out (T := RZB L v) (fun _ h => h) (fun k hk e => by
                  rcases NV.out k e with h1 | h1
                  · exact .inr h1
                  · omega)).trans K5.out (T := RZB L v) (fun _ h => h) (fun k _ e => .inl (by have e : k = L.zb := e; have := ORD.out; obtain ⟨o1, o2, o3, o4, o5, o6, o7⟩ := this; exact ⟨by omega, by omega⟩))
              have HH2 : Hid ((out ++ [bv]).length ≤ (lzNextS z).h.length) := by
                have e : (lzNextS z).h = z.h ++ [lzByte z] := rfl
                show _ ≤ _
                rw [e, List.length_append, List.length_append]
                exact Nat.add_le_add_right HH.out 1
              go_wp2_with (at_builtin; refine Hid.out ?_)
              try rw [hw5]
              refine Lib.hid ?_
              refine wpList_append_bs_at (B := w.heap.size) (O5.out.alloc _) (Bs.oneAt w5 _ rfl bv BB.out) (by omega) (Nat.le_trans SZ5.out ((Keeps.refl None w5).alloc _).size) rfl rfl rfl rfl rfl ?_
              intro v6 w6 o6 k6 hat6
              have K6 := Lib.hid (((Keeps.refl None w5).alloc (.cells #[.int .u8 bv] 5)).trans k6 (T := fun k => (Value.slice A2 out.length c2).ownBlock = some k) (fun _ h => h.elim) (fun k _ h => h))
              have Z6 := Lib.hid (Z5.out.keeps K6.out (fun k hk e => by
                rcases hk with h1 | h1
                · exact NOL.out k h1 e
                · exact NOA.out k h1 e))
              have NE6 : Hid (∀ b, (Value.slice A4 n4 c4).ownBlock = some b → ¬ v6.ownBlock = some b) := fun b hb e => by
                rcases hat6 with h1 | h1
                · rw [h1] at e; exact NOA.out b hb e
                · rw [e] at h1
                  have h2 := Option.some.inj h1
                  have h3 := L4.out b hb
                  have h4 := Nat.le_trans K5.out.size ((Keeps.refl None w5).alloc (.cells #[.int .u8 bv] 5)).size
                  omega
              have NV6 : Hid (∀ b, (Value.slice A4 n4 c4).ownBlock = some b → v.ownBlock = some b ∨ w.heap.size ≤ b) := fun b hb => by
                rcases AT4.out b hb with h1 | h1
                · exact NV.out b h1
                · exact .inr (Nat.le_trans (Nat.le_trans HK.out.size KQ.out.size) h1)
              have O6 : Hid (Own (w6.setCell ⟨L.zb, 16, none⟩ (.int .i64 (z.left - 1))) w.heap.size v6 (out ++ [bv])) := o6.keeps ((Keeps.self L.zb w6).put 16 _) (fun b hb e => by have h1 := (o6.blockB hb).1; have e : b = L.zb := e; have := ZLT.out; omega)
              have Z7 : Hid (RZAt (w6.setCell ⟨L.zb, 16, none⟩ (.int .i64 (z.left - 1))) L (Value.slice A4 n4 c4) { r with out := z.h ++ [bv], todo := z.left - 1 }) := RZAt.put Z6.out 16 _ rfl rfl rfl rfl rfl rfl
              have KW6 : Hid (Keeps (RZB L v) w (w6.setCell ⟨L.zb, 16, none⟩ (.int .i64 (z.left - 1)))) := (KW5.out.trans K6.out (T := RZB L v) (fun _ h => h) (fun k hk e => by have := (HO.out.blockB e).1; omega)).trans ((Keeps.self L.zb w6).put 16 _) (T := RZB L v) (fun _ h => h) (fun k _ e => .inl (by have e : k = L.zb := e; have := ORD.out; obtain ⟨o1, o2, o3, o4, o5, o6, o7⟩ := this; exact ⟨by omega, by omega⟩))
              have g16 : w6.cell? ⟨L.zb, 16, none⟩ = some (.int .i64 z.left) := by rw [← RL.out.todo]; exact Z6.out.cc.cellD 16 _ rfl
              have gf16 := Z6.out.cc.frozen 16
              clear o6 k6 hat6 y4 f4 c16 cO c14 c12 c3 c2d c1 f1 c0
              go_wp2
              go_roundg G
              case measure => omega
              case rel => exact ⟨_, _, i, _, (Value.slice A4 n4 c4), rfl, hin, ME.out, RR.out.symm, RN.out, OK2.out, PPP.out, Z7.out, O6.out, HH2.out, NE6.out, NV6.out, KW6.out⟩
            · have dn : decide (0 < z.t.n) = false := decide_eq_false hn
              have HY : Hid (lzByte z = z.t.b) := by show _ = _; unfold lzByte; rw [if_neg hn]
              obtain ⟨bv, hbv⟩ : ∃ bv, z.t.b = bv := ⟨_, rfl⟩
              rw [hbv] at HY c14
              rw [HY.out] at RR BB RN
              have BB : Hid (0 ≤ bv ∧ bv ≤ 255) := BB
              clear hbv
              go_wp2_with fail
              refine (LO.out _ HZ.out).mono ?_
              rintro e w' ⟨rfl, kk, rfl⟩
              obtain ⟨wq, hkq⟩ : ∃ x, wv.drewN kk = x := ⟨_, rfl⟩
              have KQ : Hid (Keeps None wv wq) := by show Keeps _ _ _; rw [← hkq]; exact (Keeps.refl None wv).drewN _
              have c12 : wq.cell? ⟨L.zb, 12, none⟩ = some (.int .i64 z.t.n) := by rw [← hkq]; exact c12
              have c14 : wq.cell? ⟨L.zb, 14, none⟩ = some (.int .u8 bv) := by rw [← hkq]; exact c14
              have c16 : wq.cell? ⟨L.zb, 16, none⟩ = some (.int .i64 z.left) := by rw [← hkq]; exact c16
              rw [hkq]
              clear hkq
              -- the byte bv is in its slot, at world wq; A7 where Out lies
              have ZQ := Lib.hid (HZ.out.later KQ.out)
              have OW7 : Hid (Own wq (L.zb + 1) (.slice (A7) z.h.length c7) z.h) := by show Own _ _ _ _; have := ZQ.out.ow; rw [← HV.out, RL.out.out] at this; exact this
              have cq2 : wq.cell? ⟨L.zb, 2, none⟩ = some (.slice (A7) z.h.length c7) := by rw [HV.out]; exact ZQ.out.cc.cellD 2 _ rfl
              have ZBS : Hid (L.zb + 1 ≤ wq.heap.size) := ZQ.out.less
              go_wp2_with (at_builtin; refine Hid.out ?_)
              refine Lib.hid ?_
              refine wpList_append_bs_at (B := L.zb + 1) (OW7.out.alloc _) (Bs.oneAt wq _ rfl bv BB.out) (by omega) (Nat.le_trans ZBS.out ((Keeps.refl None wq).alloc _).size) rfl rfl rfl rfl rfl ?_
              intro v4 w4 o4 k4 hat4
              obtain ⟨A4, c4, rfl, b4, -⟩ := o4.shape
              have m4 := b4.max
              have e4 := b4.le
              obtain ⟨n4, hn4⟩ : ∃ n4, (z.h ++ [bv]).length = n4 := ⟨_, rfl⟩
              have n48 : n4 ≤ 8193 := by rw [← hn4, List.length_append]; show z.h.length + 1 ≤ _; omega
              rw [hn4] at e4 o4 hat4 ⊢
              clear b4 hn4
              rw [HV.out] at k4 hat4
              have K4 := Lib.hid (((Keeps.refl None wq).alloc (.cells #[.int .u8 bv] 5)).trans k4 (T := fun k => v'.ownBlock = some k) (fun _ h => h.elim) (fun k _ h => h))
              have AT4 : Hid (∀ b, (Value.slice A4 n4 c4).ownBlock = some b → v'.ownBlock = some b ∨ wq.heap.size ≤ b) := fun b hb => by
                rcases hat4 with e | e
                · exact .inl (e.symm.trans hb)
                · rw [hb] at e
                  have := Option.some.inj e
                  exact .inr (by rw [this]; exact ((Keeps.refl None wq).alloc (.cells #[.int .u8 bv] 5)).size)
              have Z5 := Lib.hid (ZQ.out.grow K4.out o4)
              have L4 : Hid (∀ b, (Value.slice A4 n4 c4).ownBlock = some b → b < w4.heap.size) := fun b hb => (o4.blockB hb).2
              clear o4 k4 hat4 cq2 OW7
              obtain ⟨w5, hw5⟩ : ∃ x, w4.setCell ⟨L.zb, 2, none⟩ (Value.slice A4 n4 c4) = x := ⟨_, rfl⟩
              have K5 : Hid (Keeps (fun k => k = L.zb) w4 w5) := by show Keeps _ _ _; rw [← hw5]; exact (Keeps.self L.zb w4).put 2 (Value.slice A4 n4 c4)
              have ZLT : Hid (L.zb < w.heap.size) := BEL.out
              have Y4 : Hid (w4.frozen? ⟨L.zb, 2, none⟩ = false) := (K4.out.blk ZQ.out.cc (fun e => by have := (ZQ.out.ow.blockB e).1; omega)).frozen 2
              rw [hw5] at Z5
              have E54 : Hid (w4.heap.size = w5.heap.size) := by show _ = _; rw [← hw5]; simp
              have f4 := Y4.out
              have y4 : ∃ x, w4.cell? ⟨L.zb, 2, none⟩ = some x := ⟨_, (K4.out.blk ZQ.out.cc (fun e => by have := (ZQ.out.ow.blockB e).1; omega)).cellD 2 _ rfl⟩
              obtain ⟨x4, y4⟩ := y4
              have NOA : Hid (∀ b, (Value.slice A4 n4 c4).ownBlock = some b → ¬ (Value.slice A2 out.length c2).ownBlock = some b) := fun b hb e => by
                rcases AT4.out b hb with h1 | h1
                · exact NE.out b h1 e
                · have h2 := (HO.out.blockB e).2
                  have h3 := KQ.out.size
                  omega
              have O5 : Hid (Own w5 w.heap.size (.slice A2 out.length c2) out) := ((HO.out.keeps KQ.out (fun _ _ h => h)).keeps K4.out (fun b hb e => NE.out b e hb)).keeps K5.out (fun b hb e => by have h1 := (HO.out.blockB hb).1; have e : b = L.zb := e; have := ZLT.out; omega)
              have SZ5 : Hid (w.heap.size ≤ w5.heap.size) := Nat.le_trans (Nat.le_trans HK.out.size KQ.out.size) (Nat.le_trans K4.out.size K5.out.size)
              have KW5 : Hid (Keeps (RZB L v) w w5) := ((HK.out.trans KQ.out (T := RZB L v) (fun _ h => h) (fun _ _ h => h.elim)).trans K4.out (T := RZB L v) (fun _ h => h) (fun k hk e => by
                  rcases NV.out k e with h1 | h1
                  · exact .inr h1
                  · omega)).trans K5.out (T := RZB L v) (fun _ h => h) (fun k _ e => .inl (by have e : k = L.zb := e; have := ORD.out; obtain ⟨o1, o2, o3, o4, o5, o6, o7⟩ := this; exact ⟨by omega, by omega⟩))
              have HH2 : Hid ((out ++ [bv]).length ≤ (lzNextS z).h.length) := by
                have e : (lzNextS z).h = z.h ++ [lzByte z] := rfl
                show _ ≤ _
                rw [e, List.length_append, List.length_append]
                exact Nat.add_le_add_right HH.out 1
              go_wp2_with (at_builtin; refine Hid.out ?_)
              try rw [hw5]
              refine Lib.hid ?_
              refine wpList_append_bs_at (B := w.heap.size) (O5.out.alloc _) (Bs.oneAt w5 _ rfl bv BB.out) (by omega) (Nat.le_trans SZ5.out ((Keeps.refl None w5).alloc _).size) rfl rfl rfl rfl rfl ?_
              intro v6 w6 o6 k6 hat6
              have K6 := Lib.hid (((Keeps.refl None w5).alloc (.cells #[.int .u8 bv] 5)).trans k6 (T := fun k => (Value.slice A2 out.length c2).ownBlock = some k) (fun _ h => h.elim) (fun k _ h => h))
              have Z6 := Lib.hid (Z5.out.keeps K6.out (fun k hk e => by
                rcases hk with h1 | h1
                · exact NOL.out k h1 e
                · exact NOA.out k h1 e))
              have NE6 : Hid (∀ b, (Value.slice A4 n4 c4).ownBlock = some b → ¬ v6.ownBlock = some b) := fun b hb e => by
                rcases hat6 with h1 | h1
                · rw [h1] at e; exact NOA.out b hb e
                · rw [e] at h1
                  have h2 := Option.some.inj h1
                  have h3 := L4.out b hb
                  have h4 := Nat.le_trans K5.out.size ((Keeps.refl None w5).alloc (.cells #[.int .u8 bv] 5)).size
                  omega
              have NV6 : Hid (∀ b, (Value.slice A4 n4 c4).ownBlock = some b → v.ownBlock = some b ∨ w.heap.size ≤ b) := fun b hb => by
                rcases AT4.out b hb with h1 | h1
                · exact NV.out b h1
                · exact .inr (Nat.le_trans (Nat.le_trans HK.out.size KQ.out.size) h1)
              have O6 : Hid (Own (w6.setCell ⟨L.zb, 16, none⟩ (.int .i64 (z.left - 1))) w.heap.size v6 (out ++ [bv])) := o6.keeps ((Keeps.self L.zb w6).put 16 _) (fun b hb e => by have h1 := (o6.blockB hb).1; have e : b = L.zb := e; have := ZLT.out; omega)
              have Z7 : Hid (RZAt (w6.setCell ⟨L.zb, 16, none⟩ (.int .i64 (z.left - 1))) L (Value.slice A4 n4 c4) { r with out := z.h ++ [bv], todo := z.left - 1 }) := RZAt.put Z6.out 16 _ rfl rfl rfl rfl rfl rfl
              have KW6 : Hid (Keeps (RZB L v) w (w6.setCell ⟨L.zb, 16, none⟩ (.int .i64 (z.left - 1)))) := (KW5.out.trans K6.out (T := RZB L v) (fun _ h => h) (fun k hk e => by have := (HO.out.blockB e).1; omega)).trans ((Keeps.self L.zb w6).put 16 _) (T := RZB L v) (fun _ h => h) (fun k _ e => .inl (by have e : k = L.zb := e; have := ORD.out; obtain ⟨o1, o2, o3, o4, o5, o6, o7⟩ := this; exact ⟨by omega, by omega⟩))
              have g16 : w6.cell? ⟨L.zb, 16, none⟩ = some (.int .i64 z.left) := by rw [← RL.out.todo]; exact Z6.out.cc.cellD 16 _ rfl
              have gf16 := Z6.out.cc.frozen 16
              clear o6 k6 hat6 y4 f4 c16 cO c14 c12 c3 c2d c1 f1 c0
              go_wp2
              go_roundg G
              case measure => omega
              case rel => exact ⟨_, _, i, _, (Value.slice A4 n4 c4), rfl, hin, ME.out, RR.out.symm, RN.out, OK2.out, PPP.out, Z7.out, O6.out, HH2.out, NE6.out, NV6.out, KW6.out⟩
        · have d1 : decide (0 < z.left) = false := decide_eq_false hl
          have HF4 := Lib.hid (HF3.out.trans (if_neg hl))
          clear HF3
          by_cases hp : z.h.length = z.plain
          · have d2 : ((z.h.length : Int) == (z.plain : Int)) = true := by simp [hp]
            have d2n : (z.h.length == z.plain) = true := by simp [hp]
            have CN := Lib.hid (fun w' (h' : DAt w' L.db 79 r.d) => rdclean_any L.db r.d w' h')
            rw [RL.out.d] at CN
            have ZBC : Hid (RZC L L.zb) := by obtain ⟨o1, o2, o3, o4, o5, o6, o7⟩ := ORD.out; exact ⟨by omega, Nat.le_refl _⟩
            have HF5 := Lib.hid (HF4.out.trans (if_pos hp))
            have DZ : Hid (∀ k, DAt ((wv.drewN k).setCell ⟨L.zb, 1, none⟩ (.int .i64 4)) L.db 79 z.d) := by
              show ∀ k, _
              intro k
              rw [← RL.out.d]
              exact (PUT1.out _ 4 (HZ.out.later ((Keeps.refl None wv).drewN k))).dc
            clear HF4
            cases hcl : dCleanB z.d with
            | true =>
              rw [hcl] at CN
              have RR : Hid ((rz, ry, ro) = lzF room G { z with st := 3 } (zs.drop i) out) := by show _ = _; rw [HF5.out]; unfold lzEndV; rw [if_pos hcl]
              have ME : Hid (lzM { z with st := 3 } (n - i) < G) := by
                have h1 := lzM_end z 3 (n - i) (n - i) (.inl rfl) z TM.out
                have h2 := HG.out
                show _ < _
                omega
              have OK2 := Lib.hid (OK.out.set 3 (by decide) (by decide) s4)
              clear HF5 hcl
              go_wp2_with fail
              refine (LO.out _ HZ.out).mono ?_
              rintro e w' ⟨rfl, kk, rfl⟩
              go_wp2_with fail
              go_quiet (fail)
              go_wp2_with fail
              refine (CN.out _ (DZ.out _)).mono ?_
              rintro e w' ⟨rfl, rfl⟩
              go_wp2
              go_roundg G
              case measure => omega
              case rel => exact ⟨_, _, i, out, v', rfl, hin, ME.out, RR.out.symm, RL.out.state 3, OK2.out, PPP.out, RZAt.put (PUT1.out _ 4 (HZ.out.later ((Keeps.refl None wv).drewN _))) (z' := { r with st := 3 }) 1 _ rfl rfl rfl rfl rfl rfl, HO.out.keeps ((((Keeps.refl (fun k => k = L.zb) wv).drewN _).trans ((Keeps.self L.zb _).put 1 (.int .i64 4)) (T := fun k => k = L.zb) (fun _ h => h) (fun _ _ h => h)).trans ((Keeps.self L.zb _).put 1 (.int .i64 3)) (T := fun k => k = L.zb) (fun _ h => h) (fun _ _ h => h)) (fun b hb e => NOL.out L.zb ZBC.out (by have e : b = L.zb := e; rw [← e]; exact hb)), HH.out, NE.out, NV.out, ((HK.out.drewN _).trans ((Keeps.self L.zb _).put 1 (.int .i64 4)) (T := RZB L v) (fun _ h => h) (fun k _ e => .inl (by have e : k = L.zb := e; rw [e]; exact ZBC.out))).trans ((Keeps.self L.zb _).put 1 (.int .i64 3)) (T := RZB L v) (fun _ h => h) (fun k _ e => .inl (by have e : k = L.zb := e; rw [e]; exact ZBC.out))⟩
            | false =>
              rw [hcl] at CN
              have RR : Hid ((rz, ry, ro) = lzF room G { z with st := 4 } (zs.drop i) out) := by show _ = _; rw [HF5.out]; unfold lzEndV; rw [if_neg (by rw [hcl]; decide)]
              have ME : Hid (lzM { z with st := 4 } (n - i) < G) := by
                have h1 := lzM_end z 4 (n - i) (n - i) (.inr rfl) z TM.out
                have h2 := HG.out
                show _ < _
                omega
              have OK2 := Lib.hid (OK.out.set 4 (by decide) (by decide) s4)
              clear HF5 hcl
              go_wp2_with fail
              refine (LO.out _ HZ.out).mono ?_
              rintro e w' ⟨rfl, kk, rfl⟩
              go_wp2_with fail
              go_quiet (fail)
              go_wp2_with fail
              refine (CN.out _ (DZ.out _)).mono ?_
              rintro e w' ⟨rfl, rfl⟩
              go_wp2
              go_roundg G
              case measure => omega
              case rel => exact ⟨_, _, i, out, v', rfl, hin, ME.out, RR.out.symm, RL.out.state 4, OK2.out, PPP.out, PUT1.out _ 4 (HZ.out.later ((Keeps.refl None wv).drewN _)), HO.out.keeps (((Keeps.refl (fun k => k = L.zb) wv).drewN _).trans ((Keeps.self L.zb _).put 1 (.int .i64 4)) (T := fun k => k = L.zb) (fun _ h => h) (fun _ _ h => h)) (fun b hb e => NOL.out L.zb ZBC.out (by have e : b = L.zb := e; rw [← e]; exact hb)), HH.out, NE.out, NV.out, (HK.out.drewN _).trans ((Keeps.self L.zb _).put 1 (.int .i64 4)) (T := RZB L v) (fun _ h => h) (fun k _ e => .inl (by have e : k = L.zb := e; rw [e]; exact ZBC.out))⟩
          · have d2 : ((z.h.length : Int) == (z.plain : Int)) = false := by simp; omega
            have d2n : (z.h.length == z.plain) = false := by simp; omega
            have HF5 := Lib.hid (HF4.out.trans (if_neg hp))
            clear HF4
            have RB := Lib.hid (RL.out.bit OK.out PPP.out DM.out hl hp)
            have BT := Lib.hid (fun w' (h' : RZAt w' L v' r) => rlzbit_any L v' r w' h' (RL.out.ok OK.out))
            have PN : Hid (PP (lzTakeS z).s.m) := by
              show PP _
              have e : (lzTakeS z).s = rNext z.s z.d := by unfold lzTakeS; split <;> rfl
              rw [e, (rNext_step z.s z.d DM.out (rP_nz OK.out.rok PPP.out)).2.2.1]
              exact PPP.out.step _
            have NH : Hid ((lzTakeS z).h = z.h) := by show _ = _; unfold lzTakeS; split <;> rfl
            obtain ⟨z2, hz2⟩ : ∃ x, (if lzTakeB z = true then lzTakeS z else { lzTakeS z with st := 4 }) = x := ⟨_, rfl⟩
            have RR : Hid ((rz, ry, ro) = lzF room G z2 (zs.drop i) out) := by
              show _ = _
              rw [HF5.out, ← hz2]
              split <;> rfl
            have ME : Hid (lzM z2 (n - i) < G) := by
              have h2 := HG.out
              show _ < _
              rw [← hz2]
              split
              · rename_i htb
                have h1 := lzM_take (n - i) OK.out TM.out hl htb
                omega
              · exact Nat.lt_of_lt_of_le (lzM_end z 4 (n - i) (n - i) (.inr rfl) (lzTakeS z) TM.out) (by omega)
            have OK2 : Hid (LzOk z2) := by
              show LzOk _
              rw [← hz2]
              split
              · rename_i htb; exact OK.out.take hl htb
              · exact OK.out.fail
            have PN2 : Hid (PP z2.s.m) := by show PP _; rw [← hz2]; split <;> exact PN.out
            have NH2 : Hid (z2.h = z.h) := by show _ = _; rw [← hz2]; split <;> exact NH.out
            rw [hz2] at RB
            clear HF5 hz2 PN NH
            go_wp2_with fail
            refine (LO.out _ HZ.out).mono ?_
            rintro e w' ⟨rfl, kk, rfl⟩
            go_wp2_with fail
            go_quiet (fail)
            go_wp2_with fail
            refine (BT.out _ (HZ.out.later ((Keeps.refl None wv).drewN _))).mono ?_
            rintro e w5 ⟨rfl, z5, k5⟩
            have Z5 := Lib.hid z5
            have KS := Lib.hid ((HK.out.drewN _).trans k5 (T := RZB L v) (fun _ h => h) (fun k _ e => .inl e))
            have OS := Lib.hid ((HO.out.drewN _).keeps k5 (fun b hb e => NOL.out b e hb))
            clear z5 k5 BT
            go_wp2
            go_roundg G
            case measure => omega
            case rel => exact ⟨z2, _, i, out, v', rfl, hin, ME.out, RR.out.symm, RB.out, OK2.out, PN2.out, Z5.out, OS.out, by rw [NH2.out]; exact HH.out, NE.out, NV.out, KS.out⟩
end Go.Proofs.Ytnanbnaikmaljaa
