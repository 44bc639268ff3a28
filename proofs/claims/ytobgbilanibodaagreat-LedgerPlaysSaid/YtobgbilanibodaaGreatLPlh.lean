
/- Texts put together: LgChk, JlCm, Lp, Acts, JlArg, LgArg, LgArg2, LgActs, Lg14, LgDo, RfMem, RfWrite, RfProg, RfErase, RfCopy, RfSim, Kc, RfLaw, RfRg, RgSim, Kc2, Rk, Kc3, Rk2, Rk3, Kc4, Rk4, Rk5, RkSim, Lq. -/
import Derived.Test.YtobgbilanibodaaGreatLPlg
import Derived.Test.YtobgbilanibodaaGreatLPla
import Derived.Test.YtobgbilanibodaaGreatLPlc
import Derived.Test.YtobgbilanibodaaGreatLPlf
import Derived.Test.YtobgbilanibodaaGreatLPld
import Derived.Test.YtobgbilanibodaaGreatLPle
namespace Go.Proofs.YtobgbilanibodaaGreat
open Go.RowKit
def checkF (s : FS) (j : JS) (st : St) (c : Chk) : FS × JS × St × Int := if c.may then keepF s j st 3 (chkL c) else (s, j, st, 1)
theorem tl209 (P : Prop) (h : P := by
 have L96 : (chkL c).length = 232 := chkL_len hmay CO.out
 rw [L96] at B1 NS q1 ⊢
 have KD := Lib.hid (KP.out w1 A1 232 c1 G1.out B1.out (by decide) NS.out)
 have CF : Hid (checkF s j st c = keepF s j st 3 (chkL c)) := if_pos hmay
 exact tl205 _) : P := h
set_option maxRecDepth 100000 in
set_option maxHeartbeats 3200000 in
theorem lgcheck_any {W w : World} {B q lb jb : Nat} {X : JX} {s : FS} {j : JS} {st : St} {A : Option Addr} {n cap m : Nat} (h : LG W w B q lb jb X s j st A n cap) (ok : JOk j) (c : Chk) (oc : c.ok) {kA : Option Addr} {kn kc : Nat} (hm : Bs w kA kn kc c.mid)
    (ok2 : JOk (appF s j 3 (chkL c)).2.1) (hel : 2 ≤ (appF s j 3 (chkL c)).1.er.length) (rm : JRm s (m + 3250)) :
    Calls Tryz.prog 13 #[.pointer (some ⟨lb, 0, none⟩), c.v kA kn kc] w (LGDone W w B q lb jb X A n (checkF s j st c)) := by
 have G := Lib.hid h
 have CO := Lib.hid oc
 have PUT := Lib.hid (fun w h => lgputk_any c oc kA kn kc w h)
 have HMD := Lib.hid hm
 unfold Chk.v at PUT ⊢
 obtain ⟨w0, hw0⟩ : ∃ x, w.alloc (.cells (c.cs kA kn kc).toArray 44) = x := ⟨_, rfl⟩
 have CB : Hid (Blk w0 w.heap.size (c.cs kA kn kc) 44) := by rw [← hw0]; exact Blk.new w (c.cs kA kn kc) 44
 have K0 : Hid (Keeps None w w0) := by rw [← hw0]; exact (Keeps.refl None w).alloc _
 have KP := Lib.hid (fun (w' : World) (A' : Option Addr) (n' c' : Nat) (g : LG W w' B q lb jb X s j st A n cap) (hb : Bs w' A' n' c' (chkL c)) (hn : n' ≤ 600) (hS : ∀ b off, 0 < n' → A' = some ⟨b, off, none⟩ → ¬ X.S b) => lgkeep_any g ok 3 hb hn hS ok2 hel rm)
 obtain ⟨V, hV⟩ : ∃ V, (c.cs kA kn kc).toArray = V := ⟨_, rfl⟩
 rw [hV] at hw0 ⊢
 have HV := Lib.hid hV
 clear h ok oc ok2 hel rm hV hm
 go_enter Tryz.func13, Tryz.ntmps13
 go_wp2_with (refine wpList_load_blk (b := w.heap.size) (o := 0) (ds := c.cs kA kn kc) CB.out (fun j v hv => by rw [Nat.zero_add]; exact hv) rfl rfl rfl Tryz.underlying44 rfl (by rw [Chk.cs_len CO.out]; exact chk_size) ?_)
 go_wp2_with fail
 refine (PUT.out _ (HMD.out.keeps K0.out (fun _ _ _ _ _ h => h))).mono ?_
 rintro e w1 ⟨v1, rfl, o1, k1⟩
 obtain ⟨A1, c1, rfl, b1, -⟩ := o1.shape
 have K1 := Lib.hid (K0.out.trans k1 (T := None) (fun _ h => h) (fun _ _ h => h))
 have G1 := Lib.hid (G.out.later K1.out)
 have q1 := b1.le
 have q2 := b1.max
 have B1 := Lib.hid b1
 have NS : Hid (∀ b off, 0 < (chkL c).length → A1 = some ⟨b, off, none⟩ → ¬ X.S b) := fun b off hn e hS => by
  have h1 := ((chkV_own o1).p b off hn e).1
  have h2 := G.out.lj.at_.lt b hS
  have h3 := K0.out.size
  omega
 by_cases hmay : c.may
 ·exact tl209 _
 ·have L0 : (chkL c).length = 0 := Nat.eq_zero_of_not_pos (fun h => hmay (chkL_pos.1 h))
  rw [L0]
  have CF : Hid (checkF s j st c = (s, j, st, 1)) := if_neg hmay
  exact tl206 _
def clearF (s : FS) (j : JS) (st : St) : FS × JS × St × Int := if st.has = true then keepF s j st 4 [] else (s, j, st, 0)
theorem tl210 (P : Prop) (h : P := by
 have CF : Hid (clearF s j st = keepF s j st 4 []) := if_pos HHS.out
 go_wp2_with fail
 refine KD.out.mono ?_
 rw [← CF.out]
 rintro e w2 ⟨rfl, X2, A2, n2, c2, g2, t2, u2⟩
 have G2 := Lib.hid g2
 have T2 := Lib.hid t2
 have U2 := Lib.hid u2
 clear g2 t2 u2
 go_wp2
 go_ret
 exact ⟨rfl, X2, A2, n2, c2, G2.out, T2.out, U2.out⟩) : P := h
set_option maxRecDepth 100000 in
set_option maxHeartbeats 1600000 in
theorem lgclear_any {W w : World} {B q lb jb : Nat} {X : JX} {s : FS} {j : JS} {st : St} {A : Option Addr} {n cap m : Nat} (h : LG W w B q lb jb X s j st A n cap) (ok : JOk j)
    (ok2 : JOk (appF s j 4 []).2.1) (hel : 2 ≤ (appF s j 4 []).1.er.length) (rm : JRm s (m + 3250)) :
    Calls Tryz.prog 15 #[.pointer (some ⟨lb, 0, none⟩)] w (LGDone W w B q lb jb X A n (clearF s j st)) := by
 have KD := Lib.hid (lgkeep_any h ok 4 (bA := none) (bn := 0) (bc := 0) (body := []) ⟨rfl, Nat.le_refl _, by decide, (fun _ => ⟨rfl, rfl⟩), (fun z hz => by cases hz), fun h => absurd h (Nat.lt_irrefl _)⟩ (by decide) (fun b off hn _ => absurd hn (Nat.lt_irrefl _)) ok2 hel rm)
 have x69 : w.cell? ⟨lb, 69, none⟩ = some (.bool st.has) := h.l.cellD 69 _ (St.cs_has h.inv.ok A n cap)
 have G := Lib.hid h
 obtain ⟨hs, hhs⟩ : ∃ b, st.has = b := ⟨_, rfl⟩
 have HHS := Lib.hid hhs
 rw [hhs] at x69
 clear h ok ok2 hel rm hhs
 go_enter Tryz.func15, Tryz.ntmps15
 cases hs with
 | false =>
  have CF : Hid (clearF s j st = (s, j, st, 0)) := if_neg (by rw [HHS.out]; decide)
  go_wp2
  go_ret
  rw [CF.out]
  exact ⟨rfl, X, A, n, cap, G.out, LGT.same (Keeps.refl None w), MidT.refl _ _ _⟩
 | true =>
  exact tl210 _
open Go.RowKit
open Go.RowKit
theorem foldl_numR : ∀ (l : List Rec) (i : Nat) (s : St), (numR i l).foldl stepS s = l.foldl stepS s
  | [], _, _ => rfl
  | r :: l, i, s => by
    rw [numR, List.foldl_cons, List.foldl_cons, foldl_numR l (i + 1)]
    rfl
theorem foldS_numR (l : List Rec) (i : Nat) : foldS (numR i l) = foldS l := foldl_numR l i st0
theorem nextS_step {st : St} (h : st.inv) (kind : Int) (body : List Int) : nextS st kind body = stepS st ⟨kind, 0, body⟩ := by
 unfold nextS
 rw [foldS_append, fold_recs h]
 rfl
theorem foldS_push (l : List Rec) (kind q : Int) (body : List Int) (h : (foldS l).inv) : foldS (l ++ [⟨kind, q, body⟩]) = nextS (foldS l) kind body := by
 rw [nextS_step h, foldS_append]
 rfl
theorem foldS_next {st : St} (h : st.inv) (kind : Int) {body : List Int} (hb : Byt body) : foldS (numR 0 (recsS (nextS st kind body))) = nextS st kind body := by
 rw [foldS_numR, fold_recs (nextS_inv h kind hb)]
theorem JOk.err {j : JS} (h : JOk j) (e : Int) : JOk { j with err := e } := ⟨h.ll, h.bl, h.used, h.cur, h.epoch⟩
theorem app_ok {s : FS} {n e : Nat} {c : Int} {l : List Rec} {T : List Int} (g : FG s n) (hd : s.dark = false) (hk : Keep s e c l T) (kind : Int) {body : List Int} (hb : Byt body) : JOk (appF s (keptJ e c l T) kind body).2.1 ∧ 2 ≤ (appF s (keptJ e c l T) kind body).1.er.length := by
 rcases keep_app g hd hk kind body hb with ⟨-, h1⟩ | ⟨-, -, h1⟩ | ⟨s', -, -, -, -, g', ⟨b1, -, b3, -, -⟩ | ⟨b1, -, -⟩⟩
 ·rw [h1]; exact ⟨hk.ok, by rw [g.el]; exact g.n2⟩
 ·rw [h1]; exact ⟨hk.ok, by rw [g.el]; exact g.n2⟩
 ·rw [b1]; exact ⟨b3.ok, by rw [g'.el]; exact g'.n2⟩
 ·rw [b1]; exact ⟨hk.ok.err 5, by rw [g'.el]; exact g'.n2⟩
open Go.RowKit Go.ChangeShapes Go.WideShapes Go.Deep
section
variable {H : Type} {enc : TypeId × Value → H} {w : World} {base : Nat} {spare : Nat → Bool} {held : Bool} {n : Nat} {fs : Array Field} {xs : List Value}
end
open Go.RowKit Go.ChangeShapes Go.WideShapes Go.ChangeAt Go.Deep
section
variable {H : Type} {enc : TypeId × Value → H} {w : World} {base : Nat} {spare : Nat → Bool} {held : Bool}
end
open Go.RowKit Go.ChangeShapes Go.WideShapes Go.ChangeAt Go.Deep
theorem at_of_take {α : Type} {cs : List α} {o : Nat} {v : α} (h : (cs.drop o).take 1 = [v]) : cs[o]? = some v := by
 have h1 : ((cs.drop o).take 1)[0]? = some v := by rw [h]; rfl
 rw [List.getElem?_take, if_pos (by decide), List.getElem?_drop, Nat.add_zero] at h1
 exact h1
section
variable {H : Type} {enc : TypeId × Value → H} {w : World} {base : Nat} {spare : Nat → Bool} {held : Bool}
theorem open_u8s {t : TypeId} {k fuel : Nat} {cs : List Value} {x : DataW H × List MemPlace} (hu : (Tryz.prog).underlying t = some (.array k 5)) (hk : (Tryz.prog).cellsOf t = k) (h : DataW.trod enc Tryz.prog w base spare held fuel t cs = some x) :
    ∃ zs : List Int, zs.length = k ∧ Byt zs ∧ cs = zs.map (.int .u8) := by
 obtain ⟨xs, m, _, _, hl, hx, hf⟩ := DataW.trod_array hu h
 have h1 : (Tryz.prog).cellsOf 5 = 1 := by kernel_rfl
 rw [hk] at hl
 have hc : ∀ i, i < k → ∃ n : Int, cs[i]? = some (.int .u8 n) ∧ 0 ≤ n ∧ n ≤ 255 := fun i hi => by
  have h2 := hf i hi
  rw [h1, Nat.mul_one, List.getElem?_eq_getElem (by omega)] at h2
  obtain ⟨n, e, _, hw⟩ := DataW.trod_int Tryz.underlying5 h2
  refine ⟨n, at_of_take e, ?_⟩
  exact wf_u8_bd hw
 have hb : ∀ i, i < k → ∃ n : Int, cs[i]? = some (.int .u8 n) ∧ 0 ≤ n ∧ n ≤ 255 := hc
 obtain ⟨F, hF⟩ := choose_lt hb
 refine ⟨(List.range k).map F, by simp, fun z hz => ?_, ?_⟩
 ·obtain ⟨i, hi, rfl⟩ := List.mem_map.1 hz
  exact (hF i (List.mem_range.1 hi)).2
 ·apply List.ext_getElem?
  intro i
  by_cases hi : i < k
  ·rw [(hF i hi).1]
   simp [hi]
  ·rw [List.getElem?_eq_none (by omega), List.getElem?_eq_none (by simp; omega)]
theorem open_com_cells {fuel : Nat} {cs : List Value} {x : DataW H × List MemPlace} (h : DataW.trod enc Tryz.prog w base spare held fuel 41 cs = some x) : ∃ c : Com, c.ok ∧ cs = c.cs := by
 obtain ⟨ys, m, _, _, hl, hy, hf⟩ := DataW.trod_struct Tryz.underlying41 h
 have hC : (Tryz.prog).cellsOf 41 = 68 := by kernel_rfl
 rw [hC] at hl
 have i1 : (Tryz.prog).cellsOf 3 = 1 := by kernel_rfl
 have i2 : (Tryz.prog).cellsOf 38 = 1 := by kernel_rfl
 have i3 : (Tryz.prog).cellsOf 39 = 64 := by kernel_rfl
 have f0 : DataW.trod enc Tryz.prog w base spare held m 3 ((cs.drop 0).take ((Tryz.prog).cellsOf 3)) = ys[0]? := hf 0 _ rfl
 have f1 : DataW.trod enc Tryz.prog w base spare held m 38 ((cs.drop 1).take ((Tryz.prog).cellsOf 38)) = ys[1]? := hf 1 _ rfl
 have f2 : DataW.trod enc Tryz.prog w base spare held m 38 ((cs.drop 2).take ((Tryz.prog).cellsOf 38)) = ys[2]? := hf 2 _ rfl
 have f3 : DataW.trod enc Tryz.prog w base spare held m 3 ((cs.drop 3).take ((Tryz.prog).cellsOf 3)) = ys[3]? := hf 3 _ rfl
 have f4 : DataW.trod enc Tryz.prog w base spare held m 39 ((cs.drop 4).take ((Tryz.prog).cellsOf 39)) = ys[4]? := hf 4 _ rfl
 match ys, hy with
 | [y0, y1, y2, y3, y4], _ =>
  obtain ⟨a0, e0, _, _⟩ := DataW.trod_int Tryz.underlying3 f0
  obtain ⟨a1, e1, _, u1⟩ := DataW.trod_int Tryz.underlying38 f1
  obtain ⟨a2, e2, _, u2⟩ := DataW.trod_int Tryz.underlying38 f2
  obtain ⟨a3, e3, _, _⟩ := DataW.trod_int Tryz.underlying3 f3
  obtain ⟨zs, hz, hb, e4⟩ := open_u8s Tryz.underlying39 i3 f4
  have b1 := wf_u64_bd u1
  have b2 := wf_u64_bd u2
  have g0 : cs[0]? = some (.int .i64 a0) := at_of_take (by rw [i1] at e0; exact e0)
  have g1 : cs[1]? = some (.int .u64 a1) := at_of_take (by rw [i2] at e1; exact e1)
  have g2 : cs[2]? = some (.int .u64 a2) := at_of_take (by rw [i2] at e2; exact e2)
  have g3 : cs[3]? = some (.int .i64 a3) := at_of_take (by rw [i1] at e3; exact e3)
  refine ⟨⟨a0, a1.toNat, a2.toNat, a3, zs⟩, ⟨by show a1.toNat < _; omega, by show a2.toNat < _; omega, hz, hb⟩, ?_⟩
  have t1 : ((a1.toNat : Nat) : Int) = a1 := by omega
  have t2 : ((a2.toNat : Nat) : Int) = a2 := by omega
  apply List.ext_getElem?
  intro i
  unfold Com.cs
  dsimp only
  rw [t1, t2]
  match i with
  | 0 => exact g0
  | 1 => exact g1
  | 2 => exact g2
  | 3 => exact g3
  | i + 4 =>
   show cs[i + 4]? = (zs.map (Value.int .u8))[i]?
   rw [← e4, i3]
   have e5 : (cs.drop 4).take 64 = cs.drop 4 := List.take_of_length_le (by rw [List.length_drop]; omega)
   show _ = (List.take 64 (cs.drop 4))[i]?
   rw [e5, List.getElem?_drop, Nat.add_comm]
end
open Go.RowKit Go.ChangeShapes Go.WideShapes Go.ChangeAt Go.Deep
section
variable {H : Type} {enc : TypeId × Value → H} {w : World} {base : Nat} {spare : Nat → Bool} {held : Bool}
theorem open_chk_cells {fuel : Nat} {cs : List Value} {x : DataW H × List MemPlace} (h : DataW.trod enc Tryz.prog w base spare held fuel 44 cs = some x) : ∃ (k : Chk) (A : Option Addr) (n cap : Nat), k.ok ∧ cs = k.cs A n cap ∧ Bs w A n cap k.mid := by
 obtain ⟨ys, m, _, _, hl, hy, hf⟩ := DataW.trod_struct Tryz.underlying44 h
 have hC : (Tryz.prog).cellsOf 44 = 13 := by kernel_rfl
 rw [hC] at hl
 have i1 : (Tryz.prog).cellsOf 3 = 1 := by kernel_rfl
 have i2 : (Tryz.prog).cellsOf 37 = 1 := by kernel_rfl
 have i3 : (Tryz.prog).cellsOf 42 = 8 := by kernel_rfl
 have f0 : DataW.trod enc Tryz.prog w base spare held m 3 ((cs.drop 0).take ((Tryz.prog).cellsOf 3)) = ys[0]? := hf 0 _ rfl
 have f1 : DataW.trod enc Tryz.prog w base spare held m 3 ((cs.drop 1).take ((Tryz.prog).cellsOf 3)) = ys[1]? := hf 1 _ rfl
 have f2 : DataW.trod enc Tryz.prog w base spare held m 3 ((cs.drop 2).take ((Tryz.prog).cellsOf 3)) = ys[2]? := hf 2 _ rfl
 have f3 : DataW.trod enc Tryz.prog w base spare held m 3 ((cs.drop 3).take ((Tryz.prog).cellsOf 3)) = ys[3]? := hf 3 _ rfl
 have f4 : DataW.trod enc Tryz.prog w base spare held m 42 ((cs.drop 4).take ((Tryz.prog).cellsOf 42)) = ys[4]? := hf 4 _ rfl
 have f5 : DataW.trod enc Tryz.prog w base spare held m 37 ((cs.drop 12).take ((Tryz.prog).cellsOf 37)) = ys[5]? := hf 5 _ rfl
 match ys, hy with
 | [y0, y1, y2, y3, y4, y5], _ =>
  obtain ⟨a0, e0, _, _⟩ := DataW.trod_int Tryz.underlying3 f0
  obtain ⟨a1, e1, _, _⟩ := DataW.trod_int Tryz.underlying3 f1
  obtain ⟨a2, e2, _, _⟩ := DataW.trod_int Tryz.underlying3 f2
  obtain ⟨a3, e3, _, _⟩ := DataW.trod_int Tryz.underlying3 f3
  obtain ⟨zs, hz, hb, e4⟩ := open_u8s Tryz.underlying42 i3 f4
  obtain ⟨A, n, cap, e5⟩ : ∃ A n cap, (cs.drop 12).take ((Tryz.prog).cellsOf 37) = [.slice A n cap] := by
   rcases open_slice Tryz.underlying37 f5 with ⟨h0, _⟩ | ⟨x, l, c, m, fu, D, Pl, h0, _⟩
   ·exact ⟨_, _, _, h0⟩
   ·exact ⟨_, _, _, h0⟩
  rw [e5] at f5
  obtain ⟨ms, hms⟩ := open_bs (A := A) (n := n) (cap := cap) (d := y5.1) (p := y5.2) ⟨m, f5⟩
  have g0 : cs[0]? = some (.int .i64 a0) := at_of_take (by rw [i1] at e0; exact e0)
  have g1 : cs[1]? = some (.int .i64 a1) := at_of_take (by rw [i1] at e1; exact e1)
  have g2 : cs[2]? = some (.int .i64 a2) := at_of_take (by rw [i1] at e2; exact e2)
  have g3 : cs[3]? = some (.int .i64 a3) := at_of_take (by rw [i1] at e3; exact e3)
  have g5 : cs[12]? = some (.slice A n cap) := at_of_take (by rw [i2] at e5; exact e5)
  refine ⟨⟨a0, a1, a2, a3, zs, ms⟩, A, n, cap, ⟨hz, hb, hms.byte⟩, ?_, hms⟩
  apply List.ext_getElem?
  intro i
  unfold Chk.cs
  dsimp only
  match i with
  | 0 => exact g0
  | 1 => exact g1
  | 2 => exact g2
  | 3 => exact g3
  | i + 4 =>
   show cs[i + 4]? = (zs.map (Value.int .u8) ++ [.slice A n cap])[i]?
   by_cases h8 : i < 8
   ·rw [List.getElem?_append_left (by rw [List.length_map, hz]; exact h8), ← e4, i3, List.getElem?_take, if_pos h8, List.getElem?_drop, Nat.add_comm]
   ·rw [List.getElem?_append_right (by rw [List.length_map, hz]; omega), List.length_map, hz]
    by_cases h9 : i = 8
    ·subst h9; exact g5
    ·rw [List.getElem?_eq_none (by omega), List.getElem?_eq_none (by simp; omega)]
end
open Go.RowKit Go.ChangeShapes Go.WideShapes Go.ChangeAt Go.Deep
structure AV where
  k : Int
  n : Int
  A : Option Addr
  l : Nat
  cp : Nat
  b : List Int
  c : Com
  kA : Option Addr
  kn : Nat
  kc : Nat
  ck : Chk
def AV.cs (a : AV) : List Value := .int .i64 a.k :: .int .i64 a.n :: .slice a.A a.l a.cp :: (a.c.cs ++ a.ck.cs a.kA a.kn a.kc)
structure AV.ok (w : World) (a : AV) : Prop where
  c : a.c.ok
  k : a.ck.ok
  b : Bs w a.A a.l a.cp a.b
  m : Bs w a.kA a.kn a.kc a.ck.mid
  nn : a.n ≤ 9223372036854775807 ∧ -9223372036854775808 ≤ a.n
theorem AV.cs_len {w : World} {a : AV} (h : a.ok w) : a.cs.length = 84 := by simp [AV.cs, Com.cs_len h.c, Chk.cs_len h.k]
theorem AV.cs_com {w : World} {a : AV} (h : a.ok w) (j : Nat) (v : Value) (hv : a.c.cs[j]? = some v) : a.cs[3 + j]? = some v := by
 have := (List.getElem?_eq_some_iff.1 hv).1
 rw [Nat.add_comm]
 show (a.c.cs ++ a.ck.cs a.kA a.kn a.kc)[j]? = _
 rw [List.getElem?_append_left this, hv]
theorem AV.cs_chk {w : World} {a : AV} (h : a.ok w) (j : Nat) (v : Value) (hv : (a.ck.cs a.kA a.kn a.kc)[j]? = some v) : a.cs[71 + j]? = some v := by
 rw [show 71 + j = (68 + j) + 3 by omega]
 show (a.c.cs ++ a.ck.cs a.kA a.kn a.kc)[68 + j]? = _
 rw [List.getElem?_append_right (by rw [Com.cs_len h.c]; omega), Com.cs_len h.c, Nat.add_sub_cancel_left, hv]
theorem AV.ok.keeps {w w' : World} {a : AV} (h : a.ok w) (k : Keeps None w w') : a.ok w' := ⟨h.c, h.k, h.b.keeps k (fun _ _ _ _ _ h => h), h.m.keeps k (fun _ _ _ _ _ h => h), h.nn⟩
structure ActsV (w : World) (A : Option Addr) (n cap : Nat) (ls : List AV) : Prop where
  len : ls.length = n
  le : n ≤ cap
  max : cap ≤ 9223372036854775807
  ok : ∀ a ∈ ls, a.ok w
  at_ : 0 < n → ∃ b off, A = some ⟨b, off, none⟩ ∧ b < w.heap.size ∧ ∀ i a, ls[i]? = some a → ∀ j v, a.cs[j]? = some v → w.cell? ⟨b, off + i * 84 + j, none⟩ = some v
section
variable {H : Type} {enc : TypeId × Value → H} {w : World} {base : Nat} {spare : Nat → Bool} {held : Bool}
theorem open_act_cells {fuel : Nat} {cs : List Value} {x : DataW H × List MemPlace} (h : DataW.trod enc Tryz.prog w base spare held fuel 46 cs = some x) : ∃ a : AV, cs = a.cs ∧ a.ok w := by
 obtain ⟨ys, m, _, _, hl, hy, hf⟩ := DataW.trod_struct Tryz.underlying46 h
 have hC : (Tryz.prog).cellsOf 46 = 84 := by kernel_rfl
 rw [hC] at hl
 have i1 : (Tryz.prog).cellsOf 3 = 1 := by kernel_rfl
 have i2 : (Tryz.prog).cellsOf 37 = 1 := by kernel_rfl
 have i3 : (Tryz.prog).cellsOf 41 = 68 := by kernel_rfl
 have i4 : (Tryz.prog).cellsOf 44 = 13 := by kernel_rfl
 have f0 : DataW.trod enc Tryz.prog w base spare held m 3 ((cs.drop 0).take ((Tryz.prog).cellsOf 3)) = ys[0]? := hf 0 _ rfl
 have f1 : DataW.trod enc Tryz.prog w base spare held m 3 ((cs.drop 1).take ((Tryz.prog).cellsOf 3)) = ys[1]? := hf 1 _ rfl
 have f2 : DataW.trod enc Tryz.prog w base spare held m 37 ((cs.drop 2).take ((Tryz.prog).cellsOf 37)) = ys[2]? := hf 2 _ rfl
 have f3 : DataW.trod enc Tryz.prog w base spare held m 41 ((cs.drop 3).take ((Tryz.prog).cellsOf 41)) = ys[3]? := hf 3 _ rfl
 have f4 : DataW.trod enc Tryz.prog w base spare held m 44 ((cs.drop 71).take ((Tryz.prog).cellsOf 44)) = ys[4]? := hf 4 _ rfl
 match ys, hy with
 | [y0, y1, y2, y3, y4], _ =>
  obtain ⟨a0, e0, _, _⟩ := DataW.trod_int Tryz.underlying3 f0
  obtain ⟨a1, e1, _, u1⟩ := DataW.trod_int Tryz.underlying3 f1
  obtain ⟨A, n, cap, e2⟩ : ∃ A n cap, (cs.drop 2).take ((Tryz.prog).cellsOf 37) = [.slice A n cap] := by
   rcases open_slice Tryz.underlying37 f2 with ⟨h0, _⟩ | ⟨x, l, c, m, fu, D, Pl, h0, _⟩
   ·exact ⟨_, _, _, h0⟩
   ·exact ⟨_, _, _, h0⟩
  rw [e2] at f2
  obtain ⟨bs, hbs⟩ := open_bs (A := A) (n := n) (cap := cap) (d := y2.1) (p := y2.2) ⟨m, f2⟩
  obtain ⟨c, oc, e3⟩ := open_com_cells f3
  obtain ⟨k, kA, kn, kc, ok, e4, hm⟩ := open_chk_cells f4
  rw [i3] at e3
  rw [i4] at e4
  have e5 : (cs.drop 71).take 13 = cs.drop 71 := List.take_of_length_le (by rw [List.length_drop]; omega)
  rw [e5] at e4
  have g0 : cs[0]? = some (.int .i64 a0) := at_of_take (by rw [i1] at e0; exact e0)
  have g1 : cs[1]? = some (.int .i64 a1) := at_of_take (by rw [i1] at e1; exact e1)
  have g2 : cs[2]? = some (.slice A n cap) := at_of_take (by rw [i2] at e2; exact e2)
  refine ⟨⟨a0, a1, A, n, cap, bs, c, kA, kn, kc, k⟩, ?_, oc, ok, hbs, hm, ⟨(wf_i64_bd u1).2, (wf_i64_bd u1).1⟩⟩
  apply List.ext_getElem?
  intro i
  unfold AV.cs
  dsimp only
  match i with
  | 0 => exact g0
  | 1 => exact g1
  | 2 => exact g2
  | i + 3 =>
   show cs[i + 3]? = (c.cs ++ k.cs kA kn kc)[i]?
   rw [← e4, ← e3, show cs.drop 71 = (cs.drop 3).drop 68 by rw [List.drop_drop], List.take_append_drop, List.getElem?_drop, Nat.add_comm]
theorem open_acts {A : Option Addr} {n cap : Nat} {d : DataW H} {p : List MemPlace} (h : DataW.Trod enc Tryz.prog w base spare held 22 (.slice A n cap) d p) : ∃ ls : List AV, ActsV w A n cap ls := by
 obtain ⟨fuel, hf⟩ := h
 have hC : (Tryz.prog).cellsOf 46 = 84 := by kernel_rfl
 rcases open_slice Tryz.underlying22 hf with ⟨hcs, _⟩ | ⟨x, l, c, m, fu, D, Pl, hcs, _, hl, hm, hz, _, hcell⟩
 ·simp [Value.cells] at hcs
  obtain ⟨rfl, rfl, rfl⟩ := hcs
  exact ⟨[], rfl, Nat.le_refl _, by decide, (fun a ha => by cases ha), fun h => absurd h (Nat.lt_irrefl _)⟩
 ·simp [Value.cells] at hcs
  obtain ⟨rfl, rfl, rfl⟩ := hcs
  have hn : n ≤ m := by rw [hz]; split <;> omega
  have hb : ∀ i, i < n → ∃ a : AV, a.ok w ∧ w.cells? base (x.add (i * 84)) 84 = some a.cs := fun i hi => by
   obtain ⟨cs', h1, h2⟩ := hcell i (by omega)
   rw [hC] at h1
   obtain ⟨a, rfl, ha⟩ := open_act_cells h2
   exact ⟨a, ha, h1⟩
  let f : Nat → AV := fun i => if hi : i < n then Classical.choose (hb i hi) else ⟨0, 0, none, 0, 0, [], com0, none, 0, 0, chk0⟩
  have hF : ∀ i, i < n → (f i).ok w ∧ w.cells? base (x.add (i * 84)) 84 = some (f i).cs := fun i hi => by
   have e : f i = Classical.choose (hb i hi) := dif_pos hi
   rw [e]
   exact Classical.choose_spec (hb i hi)
  have hcc : ∀ i, i < n → ∀ j v, (f i).cs[j]? = some v → w.cell? ((x.add (i * 84)).add j) = some v := fun i hi j v hv => by
   obtain ⟨-, h1⟩ := hF i hi
   obtain ⟨_, hcl, hat⟩ := World.cells?_some h1
   have hj := (List.getElem?_eq_some_iff.1 hv).1
   rw [hat j (by omega), hv]
  refine ⟨(List.range n).map f, by simp, hl, by unfold maxLen at hm; omega, fun a ha => ?_, fun h0 => ?_⟩
  ·obtain ⟨i, hi, rfl⟩ := List.mem_map.1 ha
   exact (hF i (List.mem_range.1 hi)).1
  ·have hl0 : (f 0).cs[0]? = some (.int .i64 (f 0).k) := rfl
   have hc0 := hcc 0 h0 0 _ hl0
   obtain ⟨b, off, spot⟩ := x
   have hspot : spot = none := by simpa [Addr.add] using World.cell?_spot hc0
   subst hspot
   refine ⟨b, off, rfl, ?_, fun i a ha j v hv => ?_⟩
   ·have := World.block_lt_of_cell? _ _ hc0
    simpa [Addr.add] using this
   ·have hi : i < n := by
     rcases Nat.lt_or_ge i n with h | h
     ·exact h
     ·rw [List.getElem?_eq_none (by simpa using h)] at ha; cases ha
    have er : f i = a := by simpa [hi] using ha
    have h1 := hcc i hi j v (by rw [er]; exact hv)
    rw [add_none, add_none] at h1
    exact h1
end
open Go.RowKit
section
variable {ops : Array Oper} {rest : List Oper} {op : Oper} {a : Act} {w : World} {Q : Exit → Act → World → Prop}
theorem wpList_load_blk_g {b o : Nat} {cs ds : List Value} {T ty : TypeId} {d : TypeDesc} {x : Operand} (h : Blk w b cs T) (hd : ∀ j v, ds[j]? = some v → cs[o + j]? = some v) (hw : Region.wanted op (yielded ops a.tmps) = true) (ho : op.op = .load ty x) (hx : a.eval x = .pointer (some ⟨b, o, none⟩))
    (hu : (Tryz.prog).underlying ty = some d) (hr : d.isRow = true) (hi : ((Tryz.prog).info? ty).map (·.size) = some ds.length) (hn : wpList Tryz.prog ops Q rest (a.put op.dst (.agg ds.toArray)) w) : wpList Tryz.prog ops Q (op :: rest) a w := by
 refine wpList_step fun K hK => ?_
 rw [if_pos hw]
 exact wp_load_mid ty x ho b o hx ds d (blk_range h hd) hu hr hi (hK _ _ hn)
theorem wpList_field_g {t : TypeId} {x : Operand} {f : Nat} {v u : Value} (hr : (Instr.field t v f).run Tryz.prog w = .ok u w) (hw : Region.wanted op (yielded ops a.tmps) = true) (ho : op.op = .field t x f) (hx : a.eval x = v)
    (hn : wpList Tryz.prog ops Q rest (a.put op.dst u) w) : wpList Tryz.prog ops Q (op :: rest) a w := by
 refine wpList_step fun K hK => ?_
 rw [if_pos hw]
 unfold Oper.wp execOp
 simp only [ho, hx, Sem.run_bind, Sem.run_pure, hr, Result.andThen_ok]
 exact hK _ _ hn
end
theorem field_com (s : St) (o : s.ok) (A : Option Addr) (n cap : Nat) (w : World) : (Instr.field 58 (.agg (s.cs A n cap).toArray) 0).run Tryz.prog w = .ok (.agg s.c.cs.toArray) w := by
 have hs : (Tryz.prog.info? 41).map (·.size) = some 68 := com_size
 have hz : ∀ w, (sizeOf 41).run Tryz.prog w = .ok 68 w := fun w => by
  cases hq : (Tryz.prog.info? 41) with
  | none => simp [hq] at hs
  | some i => simp [hq] at hs; simp [sizeOf, typeInfo, hq, hs]
 have ha : ∀ w, (isAgg 41).run Tryz.prog w = .ok true w := fun w => by simp [isAgg, run_underlying Tryz.underlying41]
 have e : (s.cs A n cap).take 68 = s.c.cs := by
  unfold St.cs
  exact List.take_left' (Com.cs_len o.c)
 simp [Instr.field, run_underlying Tryz.underlying58, part, asAgg, ha, hz, e]
theorem field_slot (c : Com) (w : World) : (Instr.field 41 (.agg c.cs.toArray) 0).run Tryz.prog w = .ok (.int .i64 c.slot) w := by
 have ha : ∀ w, (isAgg 3).run Tryz.prog w = .ok false w := fun w => by simp [isAgg, run_underlying Tryz.underlying3]
 simp [Instr.field, run_underlying Tryz.underlying41, part, asAgg, ha, Com.cs]
theorem field_ver (c : Com) (w : World) : (Instr.field 41 (.agg c.cs.toArray) 1).run Tryz.prog w = .ok (.int .u64 (c.ver : Int)) w := by
 have ha : ∀ w, (isAgg 38).run Tryz.prog w = .ok false w := fun w => by simp [isAgg, run_underlying Tryz.underlying38]
 simp [Instr.field, run_underlying Tryz.underlying41, part, asAgg, ha, Com.cs]
def c0 : Com := ⟨1, 5, 0, 0, List.replicate 64 0⟩
theorem c0_ok : c0.ok := ⟨by decide, by decide, by decide, com0_ok.mb⟩
theorem c0_may : c0.may := by decide
def n0S : St := ⟨c0, false, chk0⟩
theorem next0 : nextS st0 2 (comL c0) = n0S := by
 unfold nextS
 rw [foldS_append, fold_recs st0_inv, List.foldl_cons, List.foldl_nil]
 rw [stepS_com c0_may c0_ok]
 rfl
theorem recs0 : recsS n0S = [⟨2, 0, comL c0⟩] := by
 have h1 : 0 < (comL n0S.c).length := comL_pos.2 c0_may
 unfold recsS
 rw [if_pos h1, if_neg (fun h => by cases h.1)]
 rfl
theorem app0 : appF (newF ((2 : Nat) : Int)) (keptJ 0 (-1) [] []) 2 (comL c0) = (newF ((2 : Nat) : Int), keptJ 0 (-1) [] [], 14) := by
 have hb : Byt (comL c0) := fun z hz => (recsS_byt (st := n0S) ⟨.inr ⟨c0_may, c0_ok⟩, (fun e => by cases e), fun _ => rfl⟩) ⟨2, 0, comL c0⟩ (by rw [recs0]; exact List.mem_singleton.2 rfl) z hz
 have hl : (comL c0).length = 96 := by rw [comL_len c0_may]; rfl
 have e : (keptJ 0 (-1) [] []).room = 0 := by decide
 have hf : fitsR 2 (((([] : List Rec).length : Nat) : Int) + 1) (comL c0).length := by rw [hl]; exact ⟨by decide, by decide, by decide, by decide, by decide⟩
 have h1 := putL_len 2 (((([] : List Rec).length : Nat) : Int) + 1) (comL c0) hf
 rw [hl] at h1
 rcases (Live.new 2 (by decide) (by decide)).app (m := 99) 2 (comL c0) hb with ⟨h, -⟩ | ⟨-, -, h⟩ | ⟨-, -, h, -⟩
 ·rcases h with h | h
  ·exact absurd h (by decide)
  ·exact absurd hf h
 ·exact h
 ·rw [e, h1] at h
  exact absurd h (by decide)
theorem commit0 : ∃ s' T, commitF (newF ((2 : Nat) : Int)) (keptJ 0 (-1) [] []) st0 c0 = (s', keptJ 1 0 (numR 0 [⟨2, 0, comL c0⟩]) T, n0S, 0) := by
 have hb : ∀ r ∈ [(⟨2, 0, comL c0⟩ : Rec)], Byt r.b := by
  rw [← recs0]
  exact recsS_byt ⟨.inr ⟨c0_may, c0_ok⟩, (fun e => by cases e), fun _ => rfl⟩
 have hl : (comL c0).length = 96 := by rw [comL_len c0_may]; rfl
 unfold commitF
 rw [if_pos c0_may]
 unfold keepF
 rw [app0, next0, recs0]
 rcases (Live.new 2 (by decide) (by decide)).cmp (m := 99) (by decide) [⟨2, 0, comL c0⟩] hb with ⟨h, -⟩ | ⟨s', -, -, -, h1, -⟩
 ·have hg : GR ⟨2, 1, comL c0⟩ := ⟨by decide, (by rw [hl]; exact ⟨by decide, by decide, by decide, by decide, by decide⟩), hb ⟨2, 0, comL c0⟩ List.mem_cons_self⟩
  have h2 := hg.len
  have h3 : (pkL [⟨2, 1, comL c0⟩]).length = (Rec.put ⟨2, 1, comL c0⟩).length := by simp [pkL]
  rw [hl] at h2
  have h4 : sizeZ ((96 : Nat) : Int) = 112 := by decide
  rw [h4] at h2
  have h5 := packF_of [⟨2, 1, comL c0⟩] [] (fun r hr => by rw [List.mem_singleton.1 hr]; exact hg) (by rw [h3]; show 0 + _ ≤ _; omega)
  have h6 : numR 0 [(⟨2, 0, comL c0⟩ : Rec)] = [⟨2, 1, comL c0⟩] := rfl
  rw [h6, h5] at h
  cases h
 ·refine ⟨s', blk (1008 - (pkL (numR 0 [(⟨2, 0, comL c0⟩ : Rec)])).length), ?_⟩
  simp only [if_true]
  rw [h1]
  rfl
theorem built_c0 : (Tryz.prog).built 41 #[(0, .int .i64 1), (1, .int .u64 5)].toList = some c0.cs.toArray := by kernel_rfl
set_option maxRecDepth 100000 in
set_option maxHeartbeats 3200000 in
theorem alive23_any (W : World) : Calls Tryz.prog 4 #[] W fun e w' => e = .returned (.bool true) ∧ Keeps None W w' := by
 have V0 := Lib.hid (Live.new 2 (by decide) (by decide))
 have NW := Lib.hid (lnew (Keeps.refl None W) ((2 : Nat) : Int))
 have CM := Lib.hid commit0
 have OPN := Lib.hid (fun (w : World) B q L (h : LF W w B q L (newF ((2 : Nat) : Int))) => open23_any h V0.out.g V0.out.dark V0.out.keep)
 have CMT := Lib.hid (fun (w : World) B q lb jb X A n cap (h : LG W w B q lb jb X (newF ((2 : Nat) : Int)) (keptJ 0 (-1) [] []) st0 A n cap) => lgcommit_any h V0.out.keep.ok c0 c0_ok (m := 100) (by rw [app0]; exact V0.out.keep.ok) (by rw [app0]; decide) (V0.out.rm.less (by decide)))
 obtain ⟨s1, T, hc⟩ := CM.out
 rw [hc] at CMT
 clear CM hc
 generalize newF ((2 : Nat) : Int) = f0 at *
 go_enter Tryz.func4, Tryz.ntmps4
 go_wp2_with fail
 refine NW.out.mono ?_
 rintro e w1 ⟨q, L, rfl, hF⟩
 have HF := Lib.hid hF
 clear hF NW
 go_wp2_with fail
 refine (OPN.out _ _ _ _ HF.out).mono ?_
 rintro e w2 ⟨X, jb, lb, A, n, cap, rfl, g2, -, -, -⟩
 have G2 : Hid (LG W w2 W.heap.size q lb jb X f0 (keptJ 0 (-1) [] []) st0 A n cap) := g2
 clear g2 HF OPN
 go_wp2_with fail
 refine (lgfold_any none 0 0 [] (fun _ => True) w2 (Rws.none w2) (Bds.nil _ _)).mono ?_
 rintro e w3 ⟨A3, n3, c3, rfl, -, k3⟩
 have G3 := Lib.hid (G2.out.later k3)
 have FC := Lib.hid (fun w => field_com st0 st0_ok A3 n3 c3 w)
 have FS0 := Lib.hid (fun w => field_slot st0.c w)
 clear k3 G2
 go_wp2_with (first | (refine wpList_field_g (FC.out _) rfl rfl rfl ?_) | (refine wpList_field_g (FS0.out _) rfl rfl rfl ?_) | (refine wpList_build_run built_c0 rfl rfl (by simp [Act.eval, Act.put]) ?_))
 have CMT2 := Lib.hid (CMT.out _ _ _ _ _ _ _ _ _ G3.out)
 unfold Com.v at CMT2
 clear CMT FC FS0
 go_wp2_with fail
 refine CMT2.out.mono ?_
 rintro e w4 ⟨rfl, X4, A4, n4, c4, g4, -, -⟩
 have G4 : Hid (LG W w4 W.heap.size q lb jb X4 s1 (keptJ 1 0 (numR 0 [⟨2, 0, comL c0⟩]) T) n0S A4 n4 c4) := g4
 clear g4 CMT2 G3
 go_wp2_with fail
 refine (num23_any _ _).mono ?_
 rintro e wX ⟨rfl, rfl⟩
 have NOK : Hid (n0S.ok) := ⟨c0_ok, chk0_ok⟩
 go_wp2_with fail
 refine (lgstate_any G4.out).mono ?_
 rintro e w5 ⟨A5, n5, c5, rfl, -, k5⟩
 have G5 := Lib.hid (G4.out.later k5)
 have FC := Lib.hid (fun w => field_com n0S NOK.out A5 n5 c5 w)
 have FS0 := Lib.hid (fun w => field_slot n0S.c w)
 clear k5 G4
 go_wp2_with (first | (refine wpList_field_g (FC.out _) rfl rfl rfl ?_) | (refine wpList_field_g (FS0.out _) rfl rfl rfl ?_))
 refine (lgstate_any G5.out).mono ?_
 rintro e w6 ⟨A6, n6, c6, rfl, -, k6⟩
 have G6 := Lib.hid (G5.out.later k6)
 have FD := Lib.hid (fun w => field_com n0S NOK.out A6 n6 c6 w)
 have FV0 := Lib.hid (fun w => field_ver n0S.c w)
 clear k6 G5 FC FS0
 go_wp2_with (first | (refine wpList_field_g (FD.out _) rfl rfl rfl ?_) | (refine wpList_field_g (FV0.out _) rfl rfl rfl ?_))
 go_ret
 exact ⟨rfl, G6.out.lj.keeps⟩
open Go.RowKit
theorem comL_byt {c : Com} (h : c.ok) : Byt (comL c) := by
 have hl : ∀ n, Byt (lowL 8 n) := fun n => lowL_byte 8 n
 have happ : ∀ {x y : List Int}, Byt x → Byt y → Byt (x ++ y) := fun hx hy z hz => (List.mem_append.1 hz).elim (hx z) (hy z)
 unfold comL
 split
 ·exact happ (hl _) (happ (hl _) (happ (hl _) (happ (hl _) h.mb)))
 ·intro z hz; cases hz
theorem chkL_byt {c : Chk} (h : c.ok) : Byt (chkL c) := by
 have hl : ∀ n, Byt (lowL 8 n) := fun n => lowL_byte 8 n
 have happ : ∀ {x y : List Int}, Byt x → Byt y → Byt (x ++ y) := fun hx hy z hz => (List.mem_append.1 hz).elim (hx z) (hy z)
 unfold chkL
 split
 ·exact happ (hl _) (happ (hl _) (happ (hl _) (happ h.ib h.mb)))
 ·intro z hz; cases hz
def actF (s : FS) (j : JS) (st : St) (a : AV) : FS × JS × St × Int := if a.k = 1 then commitF s j st a.c else if a.k = 2 then checkF s j st a.ck else if a.k = 3 then clearF s j st else (s, j, st, 0)
def actRec (a : AV) : Rec := if a.k = 1 then ⟨2, 0, comL a.c⟩ else if a.k = 2 then ⟨3, 0, chkL a.ck⟩ else ⟨4, 0, []⟩
theorem actRec_byt {w : World} {a : AV} (h : a.ok w) : Byt (actRec a).b := by
 unfold actRec
 split
 ·exact comL_byt h.c
 ·split
  ·exact chkL_byt h.k
  ·intro z hz; cases hz
theorem actF_or {w : World} (s : FS) (j : JS) (st : St) {a : AV} (h : a.ok w) : (∃ er, actF s j st a = (s, j, st, er)) ∨ (actF s j st a = keepF s j st (actRec a).k (actRec a).b) := by
 unfold actF actRec commitF checkF clearF
 split
 ·split
  ·exact .inr rfl
  ·exact .inl ⟨_, rfl⟩
 ·split
  ·split
   ·exact .inr rfl
   ·exact .inl ⟨_, rfl⟩
  ·split
   ·split
    ·exact .inr rfl
    ·exact .inl ⟨_, rfl⟩
   ·exact .inl ⟨_, rfl⟩
open Go.RowKit
structure RL where
  bf : Nat
  gb : Nat
  ge : Nat
  N : Nat
  capb : Nat
  n : Nat
  pA : Option Addr
  pc : Nat
  pk : List Int
def RL.S (L : RL) (k : Nat) : Prop := k = L.bf ∨ k = L.gb ∨ k = L.ge
def RL.pv (L : RL) : Value := .slice L.pA L.pk.length L.pc
def RL.O (L : RL) (k : Nat) : Prop := L.S k ∨ L.pv.ownBlock = some k
structure RAt (w : World) (B : Nat) (L : RL) (s : FS) : Prop where
  f : Blk w L.bf [.slice (some ⟨L.gb, 0, none⟩) L.N L.capb, .slice (some ⟨L.ge, 0, none⟩) L.n L.n, .int .i64 s.steps, .int .i64 s.left, .slice L.pA L.pk.length L.pc, .bool s.dark] 65
  b : Own w B (.slice (some ⟨L.gb, 0, none⟩) L.N L.capb) s.b
  e : Blk w L.ge (s.er.map (.int .i64)) 3
  p : Own w B L.pv L.pk
  el : s.er.length = L.n
  armed : 0 ≤ s.left → L.pk = s.pick
  lm : -1 ≤ s.left
  lx : s.left ≤ 9223372036854775807
  nN : L.N = 1024 * L.n
  n0 : 1 ≤ L.n
  n9 : L.n ≤ 256
  bB : B ≤ L.bf
  eB : B ≤ L.ge
  d1 : L.bf ≠ L.gb
  d2 : L.bf ≠ L.ge
  d3 : L.gb ≠ L.ge
  pn : ∀ g, L.pv.ownBlock = some g → ¬ L.S g
  pl : L.pk.length ≤ 140737488355328
section
variable {w w' : World} {B : Nat} {L : RL} {s : FS}
theorem RAt.keeps {S : Nat → Prop} (h : RAt w B L s) (hk : Keeps S w w') (hS : ∀ k, L.O k → ¬ S k) : RAt w' B L s :=
  ⟨hk.blk h.f (hS _ (.inl (.inl rfl))), h.b.keeps hk (fun b e => by cases e; exact hS _ (.inl (.inr (.inl rfl)))), hk.blk h.e (hS _ (.inl (.inr (.inr rfl)))), h.p.keeps hk (fun b e => hS _ (.inr e)),
    h.el, h.armed, h.lm, h.lx, h.nN, h.n0, h.n9, h.bB, h.eB, h.d1, h.d2, h.d3, h.pn, h.pl⟩
theorem RAt.later (h : RAt w B L s) (hk : Keeps None w w') : RAt w' B L s := h.keeps hk (fun _ _ h => h)
theorem RAt.drew (h : RAt w B L s) : RAt w.drew B L s := h.later (Keeps.refl None w).drew
theorem RAt.alloc (h : RAt w B L s) (o : Obj) : RAt (w.alloc o) B L s := h.later ((Keeps.refl None w).alloc o)
theorem RAt.bs (h : RAt w B L s) : Bs w (some ⟨L.gb, 0, none⟩) L.N L.capb s.b := ownBs h.b
theorem RAt.bl (h : RAt w B L s) : s.b.length = L.N := h.bs.len
theorem own_lt {A : Option Addr} {n c : Nat} {zs : List Int} (h : Own w B (.slice A n c) zs) {k : Nat} (hk : (Value.slice A n c).ownBlock = some k) : k < w.heap.size := by
 rcases h.1.2 with ⟨e0, _⟩ | ⟨g, cap', cur, e1, hb, hg, _⟩
 ·cases e0; cases hk
 ·cases e1
  obtain rfl : g = k := by simpa [Value.ownBlock] using hk
  exact (Array.getElem?_eq_some_iff.1 hg).1
theorem RAt.lt (h : RAt w B L s) : ∀ k, L.O k → k < w.heap.size := by
 intro k hk
 rcases hk with (rfl | rfl | rfl) | hp
 ·exact h.f.lt
 ·obtain ⟨cur, hb, _⟩ := h.b.row; exact hb.lt
 ·exact h.e.lt
 ·exact own_lt h.p hp
theorem RAt.low (h : RAt w B L s) : ∀ k, L.O k → B ≤ k := by
 exact tl70 _
theorem RAt.cut (h : RAt w B L s) {i j : Nat} (hij : i + j ≤ L.N) : Bs w (some ⟨L.gb, i, none⟩) j (L.capb - i) ((s.b.drop i).take j) := by
 have := Bs.take (k := j) (h.bs.drop (k := i) (by omega)) (by omega)
 rwa [Nat.zero_add] at this
theorem RAt.head {s' : FS} (h : RAt w B L s) (hk : Keeps (fun k => k = L.bf) w w')
    (hf : Blk w' L.bf [.slice (some ⟨L.gb, 0, none⟩) L.N L.capb, .slice (some ⟨L.ge, 0, none⟩) L.n L.n, .int .i64 s'.steps, .int .i64 s'.left, .slice L.pA L.pk.length L.pc, .bool s'.dark] 65)
    (hb : s'.b = s.b) (he : s'.er = s.er) (ha : 0 ≤ s'.left → L.pk = s'.pick) (hm : -1 ≤ s'.left) (hx : s'.left ≤ 9223372036854775807) : RAt w' B L s' :=
  ⟨hf, by rw [hb]; exact h.b.keeps hk (fun b e => by cases e; exact fun e => h.d1 e.symm), by rw [he]; exact hk.blk h.e (fun e => h.d2 e.symm), h.p.keeps hk (fun b e hb => h.pn b e (.inl hb)), by rw [he]; exact h.el, ha, hm, hx, h.nN, h.n0, h.n9, h.bB, h.eB, h.d1, h.d2, h.d3, h.pn, h.pl⟩
theorem RAt.bytes {b' : List Int} (h : RAt w B L s) (hk : Keeps (fun k => k = L.gb) w w') (hb : Own w' B (.slice (some ⟨L.gb, 0, none⟩) L.N L.capb) b') : RAt w' B L { s with b := b' } :=
  ⟨hk.blk h.f h.d1, hb, hk.blk h.e (fun e => h.d3 e.symm), h.p.keeps hk (fun b e hb => h.pn b e (.inr (.inl hb))), h.el, h.armed, h.lm, h.lx, h.nN, h.n0, h.n9, h.bB, h.eB, h.d1, h.d2, h.d3, h.pn, h.pl⟩
theorem RAt.sect {er' : List Int} (h : RAt w B L s) (hk : Keeps (fun k => k = L.ge) w w') (he : Blk w' L.ge (er'.map (.int .i64)) 3) (hl : er'.length = s.er.length) : RAt w' B L { s with er := er' } :=
  ⟨hk.blk h.f h.d2, h.b.keeps hk (fun b e => by cases e; exact h.d3), he, h.p.keeps hk (fun b e hb => h.pn b e (.inr (.inr hb))), hl.trans h.el, h.armed, h.lm, h.lx, h.nN, h.n0, h.n9, h.bB, h.eB, h.d1, h.d2, h.d3, h.pn, h.pl⟩
end
structure RTurn (w w' : World) (B : Nat) (L L' : RL) (s' : FS) : Prop where
  at_ : RAt w' B L' s'
  keeps : Keeps L.O w w'
  bf : L'.bf = L.bf
  n : L'.n = L.n
  o : ∀ k, L'.O k → L.O k ∨ w.heap.size ≤ k
theorem RTurn.self {w : World} {B : Nat} {L : RL} {s : FS} (h : RAt w B L s) : RTurn w w B L L s := ⟨h, Keeps.refl _ _, rfl, rfl, fun _ h => .inl h⟩
theorem RTurn.still {w w1 : World} {B : Nat} {L : RL} {s : FS} (h : RAt w B L s) (k : Keeps None w w1) : RTurn w w1 B L L s := ⟨h.later k, k.mono (fun _ _ h => h.elim), rfl, rfl, fun _ h => .inl h⟩
theorem RTurn.from {w w1 w' : World} {B : Nat} {L L' : RL} {s' : FS} (k : Keeps None w w1) (t : RTurn w1 w' B L L' s') : RTurn w w' B L L' s' :=
  ⟨t.at_, k.trans t.keeps (fun _ h => h.elim) (fun _ _ h => h), t.bf, t.n, fun b hb => by
    rcases t.o b hb with h | h
    · exact .inl h
    · exact .inr (Nat.le_trans k.size h)⟩
set_option maxRecDepth 100000 in
theorem rfwithin_any (a m n : Int) (hn : 0 ≤ n ∧ n ≤ 1000000000) (w : World) : Calls Tryz.prog 29 #[.int .i64 a, .int .i64 m, .int .i64 n] w (Same (.bool (withinB a m n)) w) := by
 have WI : Hid (withinB a m n = (decide (0 ≤ a) && decide (0 ≤ m) && decide (a ≤ n) && decide (m ≤ n - a))) := by
  show withinB a m n = _
  unfold withinB
  by_cases q1 : 0 ≤ a <;> by_cases q2 : 0 ≤ m <;> by_cases q3 : a ≤ n <;> by_cases q4 : m ≤ n - a <;> simp [q1, q2, q3, q4]
 by_cases q1 : 0 ≤ a
 ·have e1 : decide (0 ≤ a) = true := decide_eq_true q1
  by_cases q2 : 0 ≤ m
  ·have e2 : decide (0 ≤ m) = true := decide_eq_true q2
   by_cases q3 : a ≤ n
   ·have e3 : decide (a ≤ n) = true := decide_eq_true q3
    rw [e1, e2, e3] at WI
    have hn1 : -9223372036854775808 ≤ n - a := by omega
    have hn2 : n - a ≤ 9223372036854775807 := by omega
    go_enter Tryz.func29, Tryz.ntmps29
    go_wp2
    go_ret
    exact ⟨ret_bool (by rw [WI.out]; simp), rfl⟩
   ·have e3 : decide (a ≤ n) = false := decide_eq_false q3
    rw [e1, e2, e3] at WI
    go_enter Tryz.func29, Tryz.ntmps29
    go_wp2
    go_ret
    exact ⟨ret_bool (by rw [WI.out]; simp), rfl⟩
  ·have e2 : decide (0 ≤ m) = false := decide_eq_false q2
   rw [e1, e2] at WI
   go_enter Tryz.func29, Tryz.ntmps29
   go_wp2
   go_ret
   exact ⟨ret_bool (by rw [WI.out]; simp), rfl⟩
 ·have e1 : decide (0 ≤ a) = false := decide_eq_false q1
  rw [e1] at WI
  go_enter Tryz.func29, Tryz.ntmps29
  go_wp2
  go_ret
  exact ⟨ret_bool (by rw [WI.out]; simp), rfl⟩
theorem tl211 (P : Prop) (h : P := by
 intro v3 w3 ho3 hk3
 rw [List.nil_append] at ho3
 have O3 := Lib.hid ho3
 have K3 : Hid (Keeps None w w3) := hk3.mono (fun i hi e => by simp [Value.ownBlock] at e)
 clear ho3 hk3
 go_wp2
 go_ret2
 exact ⟨_, rfl, O3.out, K3.out⟩) : P := h
set_option maxRecDepth 100000 in
theorem rfread_any (B : Nat) (L : RL) (s : FS) (q : Nat) (a m : Int) (w : World) (h : RAt w B L s) (hq : L.bf = q) : Calls Tryz.prog 70 #[.pointer (some ⟨q, 0, none⟩), .int .i64 a, .int .i64 m] w (ReadTold w (s.readF a m)) := by
 have hbl := h.bl
 have hrf : s.readF a m = if s.dark = true then ([], 5) else if withinB a m L.N = true then ((s.b.drop a.toNat).take m.toNat, 0) else ([], 2) := by
  unfold FS.readF; rw [hbl]
 clear hbl
 obtain ⟨bf, gb, ge, N, capb, n, pA, pc, pk⟩ := L
 simp only [] at hq
 subst hq
 have c0 := h.f.cellD 0 _ rfl
 have c1 := h.f.cellD 1 _ rfl
 have c2 := h.f.cellD 2 _ rfl
 have c3 := h.f.cellD 3 _ rfl
 have c4 := h.f.cellD 4 _ rfl
 have c5 := h.f.cellD 5 _ rfl
 have hcap := h.bs.le
 have hcmx := h.bs.max
 have hN := h.nN
 have hn0 := h.n0
 have hn9 := h.n9
 have H := Lib.hid h
 simp only [] at c0 c1 c2 c3 c4 c5 hcap hcmx hN hn0 hn9
 have hNb : N ≤ 262144 := by omega
 have hN1 : 1024 ≤ N := by omega
 have HN := Lib.hid hN
 clear h hN
 have WI := Lib.hid (rfwithin_any a m N (by omega))
 cases hd : s.dark with
 | true =>
  rw [hd, if_pos rfl] at hrf
  rw [hrf]
  clear hrf
  rw [hd] at c5
  clear hd
  go_enter Tryz.func70, Tryz.ntmps70
  go_wp2
  go_ret2
  exact ⟨_, rfl, Own.nil _ _, Keeps.refl _ _⟩
 | false =>
  rw [hd, if_neg (by decide)] at hrf
  rw [hd] at c5
  simp only [] at hrf
  cases hw : withinB a m N with
  | false =>
   rw [hw] at WI hrf
   rw [if_neg (by decide)] at hrf
   rw [hrf]
   clear hrf hw hd
   go_enter Tryz.func70, Tryz.ntmps70
   go_wp2_with fail
   refine (WI.out _).mono ?_
   rintro e w' ⟨rfl, rfl⟩
   go_wp2
   go_ret2
   exact ⟨_, rfl, Own.nil _ _, Keeps.refl _ _⟩
  | true =>
   rw [hw] at WI hrf
   rw [if_pos rfl] at hrf
   obtain ⟨i, j, rfl, rfl, hij⟩ := within_nat hw
   rw [hrf]
   simp only [Int.toNat_natCast]
   clear hrf hw hd
   have hsub : i + j - i = j := by omega
   by_cases hc : capb = i
   ·obtain rfl : j = 0 := by omega
    subst hc
    go_enter Tryz.func70, Tryz.ntmps70
    go_wp2_with fail
    refine (WI.out _).mono ?_
    rintro e w' ⟨rfl, rfl⟩
    go_wp2_with (at_builtin; refine Hid.out ?_)
    refine Lib.hid ?_
    refine wpList_append_bs (Own.nil _ w.heap.size) (Bs.empty w ⟨gb, 0, none⟩ 0 (by omega)) (by simp) (Nat.le_refl _) rfl rfl rfl rfl rfl ?_
    exact tl211 _
   ·have DB := Lib.hid (H.out.cut (i := i) (j := j) hij)
    go_enter Tryz.func70, Tryz.ntmps70
    go_wp2_with fail
    refine (WI.out _).mono ?_
    rintro e w' ⟨rfl, rfl⟩
    go_wp2_with (at_builtin; refine Hid.out ?_)
    refine Lib.hid ?_
    rw [hsub]
    refine wpList_append_bs (Own.nil _ w.heap.size) DB.out (by simp; omega) (Nat.le_refl _) rfl rfl rfl rfl rfl ?_
    exact tl211 _
def RBroke (w : World) (B : Nat) (L : RL) (s : FS) (e : Ending) (w' : World) : Prop := e = .returned (.bool (decide (s.left = 0))) ∧ Keeps (fun k => k = L.bf) w w' ∧ RAt w' B L s.stepped
set_option maxRecDepth 100000 in
theorem rfstep_any (B : Nat) (L : RL) (s : FS) (q : Nat) (w : World) (h : RAt w B L s) (hq : L.bf = q) (hd : s.dark = false) (hst : 0 ≤ s.steps ∧ s.steps ≤ 1000000000000) : Calls Tryz.prog 123 #[.pointer (some ⟨q, 0, none⟩)] w (RBroke w B L s) := by
 obtain ⟨st1, st2⟩ := hst
 have lm := h.lm
 have lx := h.lx
 have ha := h.armed
 by_cases q1 : s.left < 0
 ·have e1 : decide (s.left < 0) = true := decide_eq_true q1
  have ES : Hid (s.stepped = { s with steps := s.steps + 1 }) := if_pos q1
  have EL : Hid (decide (s.left = 0) = false) := decide_eq_false (by omega)
  obtain ⟨bf, gb, ge, N, capb, n, pA, pc, pk⟩ := L
  simp only [] at hq
  subst hq
  have c0 := h.f.cellD 0 _ rfl
  have c1 := h.f.cellD 1 _ rfl
  have c2 := h.f.cellD 2 _ rfl
  have c3 := h.f.cellD 3 _ rfl
  have c4 := h.f.cellD 4 _ rfl
  have c5 := h.f.cellD 5 _ rfl
  have hcap := h.bs.le
  have hcmx := h.bs.max
  have hN := h.nN
  have hn0 := h.n0
  have hn9 := h.n9
  have H := Lib.hid h
  simp only [] at c0 c1 c2 c3 c4 c5 hcap hcmx hN hn0 hn9
  have hNb : N ≤ 262144 := by omega
  have hN1 : 1024 ≤ N := by omega
  have HN := Lib.hid hN
  clear h hN
  have z0 := H.out.f.frozen 0
  have z1 := H.out.f.frozen 1
  have z2 := H.out.f.frozen 2
  have z3 := H.out.f.frozen 3
  have z4 := H.out.f.frozen 4
  have z5 := H.out.f.frozen 5
  simp only [] at z0 z1 z2 z3 z4 z5
  simp only [] at ha
  have HA := Lib.hid ha
  clear ha
  go_enter Tryz.func123, Tryz.ntmps123
  go_wp2
  go_ret
  have hk : Keeps (fun k => k = bf) w (w.setCell ⟨bf, 2, none⟩ (.int .i64 (s.steps + 1))) := (Keeps.self bf w).put 2 _
  refine ⟨ret_bool EL.out.symm, hk, ?_⟩
  rw [ES.out]
  exact H.out.head hk (H.out.f.set 2 _) rfl rfl HA.out lm lx
 ·have a2 := ha (by omega)
  have e1 : decide (s.left < 0) = false := decide_eq_false q1
  by_cases q2 : s.left = 0
  ·have ES : Hid (s.stepped = { s with steps := s.steps + 1, left := -1, pick := [], dark := true }) := by
    show s.stepped = _
    unfold FS.stepped; rw [if_neg q1, if_pos q2]
   have EL : Hid (decide (s.left = 0) = true) := decide_eq_true q2
   obtain ⟨bf, gb, ge, N, capb, n, pA, pc, pk⟩ := L
   simp only [] at hq
   subst hq
   have c0 := h.f.cellD 0 _ rfl
   have c1 := h.f.cellD 1 _ rfl
   have c2 := h.f.cellD 2 _ rfl
   have c3 := h.f.cellD 3 _ rfl
   have c4 := h.f.cellD 4 _ rfl
   have c5 := h.f.cellD 5 _ rfl
   have hcap := h.bs.le
   have hcmx := h.bs.max
   have hN := h.nN
   have hn0 := h.n0
   have hn9 := h.n9
   have H := Lib.hid h
   simp only [] at c0 c1 c2 c3 c4 c5 hcap hcmx hN hn0 hn9
   have hNb : N ≤ 262144 := by omega
   have hN1 : 1024 ≤ N := by omega
   have HN := Lib.hid hN
   clear h hN
   have z0 := H.out.f.frozen 0
   have z1 := H.out.f.frozen 1
   have z2 := H.out.f.frozen 2
   have z3 := H.out.f.frozen 3
   have z4 := H.out.f.frozen 4
   have z5 := H.out.f.frozen 5
   simp only [] at z0 z1 z2 z3 z4 z5
   rw [q2] at c3
   clear a2 q1 q2 e1 ha
   go_enter Tryz.func123, Tryz.ntmps123
   go_wp2
   go_ret
   have hk : Keeps (fun k => k = bf) w (((w.setCell ⟨bf, 2, none⟩ (.int .i64 (s.steps + 1))).setCell ⟨bf, 3, none⟩ (.int .i64 (-1))).setCell ⟨bf, 5, none⟩ (.bool true)) := (((Keeps.self bf w).put 2 _).put 3 _).put 5 _
   refine ⟨ret_bool EL.out.symm, hk, ?_⟩
   rw [ES.out]
   exact H.out.head hk (((H.out.f.set 2 _).set 3 _).set 5 _) rfl rfl (fun h => absurd h (show ¬ (0 : Int) ≤ -1 by decide)) (show (-1 : Int) ≤ -1 by decide) (show (-1 : Int) ≤ 9223372036854775807 by decide)
  ·have e2 : decide (s.left - 1 < 0) = false := decide_eq_false (by omega)
   have e3 : decide (s.left < 1) = false := decide_eq_false (by omega)
   have e4 : decide (s.left ≤ 0) = false := decide_eq_false (by omega)
   have ES : Hid (s.stepped = { s with steps := s.steps + 1, left := s.left - 1 }) := by
    show s.stepped = _
    unfold FS.stepped; rw [if_neg q1, if_neg q2]
   have EL : Hid (decide (s.left = 0) = false) := decide_eq_false q2
   have lp : 0 < s.left := by omega
   obtain ⟨bf, gb, ge, N, capb, n, pA, pc, pk⟩ := L
   simp only [] at hq
   subst hq
   have c0 := h.f.cellD 0 _ rfl
   have c1 := h.f.cellD 1 _ rfl
   have c2 := h.f.cellD 2 _ rfl
   have c3 := h.f.cellD 3 _ rfl
   have c4 := h.f.cellD 4 _ rfl
   have c5 := h.f.cellD 5 _ rfl
   have hcap := h.bs.le
   have hcmx := h.bs.max
   have hN := h.nN
   have hn0 := h.n0
   have hn9 := h.n9
   have H := Lib.hid h
   simp only [] at c0 c1 c2 c3 c4 c5 hcap hcmx hN hn0 hn9
   have hNb : N ≤ 262144 := by omega
   have hN1 : 1024 ≤ N := by omega
   have HN := Lib.hid hN
   clear h hN
   have z0 := H.out.f.frozen 0
   have z1 := H.out.f.frozen 1
   have z2 := H.out.f.frozen 2
   have z3 := H.out.f.frozen 3
   have z4 := H.out.f.frozen 4
   have z5 := H.out.f.frozen 5
   simp only [] at z0 z1 z2 z3 z4 z5
   simp only [] at a2
   have A2 := Lib.hid a2
   rw [hd] at c5
   have HD := Lib.hid hd
   clear a2 q1 q2 ha hd
   go_enter Tryz.func123, Tryz.ntmps123
   go_wp2
   go_ret
   have hk : Keeps (fun k => k = bf) w ((w.setCell ⟨bf, 2, none⟩ (.int .i64 (s.steps + 1))).setCell ⟨bf, 3, none⟩ (.int .i64 (s.left - 1))) := ((Keeps.self bf w).put 2 _).put 3 _
   refine ⟨ret_bool EL.out.symm, hk, ?_⟩
   rw [ES.out]
   exact H.out.head hk ((H.out.f.set 2 _).set 3 _) rfl rfl (fun _ => A2.out) (by show -1 ≤ s.left - 1; omega) (by show s.left - 1 ≤ _; omega)
theorem splice_snoc (L zs : List Int) (i j : Nat) (hj : j < zs.length) (h : i + zs.length ≤ L.length) : (splice L i (zs.take j)).set (i + j) (zs.getD j 0) = splice L i (zs.take (j + 1)) := by
 have hl : (zs.take j).length = j := by rw [List.length_take]; omega
 have hl1 : (zs.take (j + 1)).length = j + 1 := by rw [List.length_take]; omega
 have e1 : ((splice L i (zs.take j)).set (i + j) (zs.getD j 0)).length = L.length := by rw [List.length_set, splice_len _ _ _ (by omega)]
 have e2 : (splice L i (zs.take (j + 1))).length = L.length := splice_len _ _ _ (by omega)
 refine ext_getD (by rw [e1, e2]) fun k hk => ?_
 rw [splice_getD _ _ _ (by omega)]
 by_cases hkj : k = i + j
 ·subst hkj
  rw [getD_set_self _ _ _ (by rw [splice_len _ _ _ (by omega)]; omega), if_pos ⟨by omega, by omega⟩]
  have : i + j - i = j := by omega
  rw [this]; simp [List.getD]
 ·have : ((splice L i (zs.take j)).set (i + j) (zs.getD j 0)).getD k 0 = (splice L i (zs.take j)).getD k 0 := by
   simp [List.getD, List.getElem?_set, show ¬ i + j = k from fun e => hkj e.symm]
  rw [this, splice_getD _ _ _ (by omega)]
  by_cases h1 : i ≤ k ∧ k < i + j
  ·rw [if_pos ⟨h1.1, by omega⟩, if_pos ⟨h1.1, by omega⟩]
   simp [List.getD, List.getElem?_take, show k - i < j by omega, show k - i < j + 1 by omega]
  ·rw [if_neg (by omega), if_neg (by omega)]
set_option maxRecDepth 100000 in
set_option maxHeartbeats 800000 in
theorem rfset_any (B : Nat) (L : RL) (s : FS) (q i : Nat) (A : Option Addr) (m c : Nat) (zs : List Int) (w : World) (h : RAt w B L s) (hq : L.bf = q) (hb : Bs w A m c zs) (hi : i + m ≤ L.N) (hA : ∀ b off, 0 < m → A = some ⟨b, off, none⟩ → b ≠ L.gb) :
    Calls Tryz.prog 124 #[.pointer (some ⟨q, 0, none⟩), .int .i64 i, .slice A m c] w fun e w' => e = .returned (.tuple #[]) ∧ RAt w' B L { s with b := splice s.b i zs } ∧ Keeps (fun k => k = L.gb) w w' := by
 have hle := hb.le
 have hmx := hb.max
 have HB := Lib.hid hb
 have HA := Lib.hid hA
 have HML := Lib.hid hb.len
 have HSN := Lib.hid (fun j hj => splice_snoc s.b zs i j hj (by rw [h.bl, hb.len]; exact hi))
 have HZ0 : Hid (splice s.b i (zs.take 0) = s.b) := by show _ = _; rw [List.take_zero, splice_nil]
 have HSL := Lib.hid (fun j => show (splice s.b i (zs.take j)).length = L.N from by rw [splice_len _ _ _ (by rw [List.length_take, h.bl, hb.len]; omega)]; exact h.bl)
 clear hb hA
 obtain ⟨bf, gb, ge, N, capb, n, pA, pc, pk⟩ := L
 simp only [] at hq
 subst hq
 have c0 := h.f.cellD 0 _ rfl
 have c1 := h.f.cellD 1 _ rfl
 have c2 := h.f.cellD 2 _ rfl
 have c3 := h.f.cellD 3 _ rfl
 have c4 := h.f.cellD 4 _ rfl
 have c5 := h.f.cellD 5 _ rfl
 have hcap := h.bs.le
 have hcmx := h.bs.max
 have hN := h.nN
 have hn0 := h.n0
 have hn9 := h.n9
 have H := Lib.hid h
 simp only [] at c0 c1 c2 c3 c4 c5 hcap hcmx hN hn0 hn9
 have hNb : N ≤ 262144 := by omega
 have hN1 : 1024 ≤ N := by omega
 have HN := Lib.hid hN
 clear h hN
 simp only [] at hi HA HSL
 go_enter Tryz.func124, Tryz.ntmps124
 go_wp2
 go_loopw [6] (fun jv wr => ∃ j : Nat, j ≤ m ∧ jv = .int .i64 j ∧ Own wr B (.slice (some ⟨gb, 0, none⟩) N capb) (splice s.b i (zs.take j)) ∧ Keeps (fun k => k = gb) w wr) (fun jv _ => m - (intOf jv).toNat)
 case atStart => exact ⟨0, Nat.zero_le _, rfl, by rw [HZ0.out]; exact H.out.b, Keeps.refl _ _⟩
 case round =>
  obtain ⟨j, hj, rfl, hO, hK⟩ := hrel
  obtain ⟨wv, rfl⟩ : ∃ x, x = wr := ⟨_, rfl⟩
  have HO := Lib.hid hO
  have HK := Lib.hid hK
  clear hO hK
  by_cases hlt : j < m
  ·obtain ⟨bb, bo, z, rfl, hz, za, zb, hc⟩ := HB.out.get hlt
   have hbb : bb < w.heap.size := by obtain ⟨b, off, e, hb, _⟩ := HB.out.at_ (by omega); cases e; exact hb
   have hcw := (HK.out.cell (p := ⟨bb, bo + j, none⟩) hbb (HA.out bb bo (by omega) rfl)).trans hc
   have y0 := (HK.out.blk H.out.f H.out.d1).cellD 0 _ rfl
   simp only [] at y0
   obtain ⟨p, hp⟩ : ∃ p, i + j = p := ⟨_, rfl⟩
   have w1 : IntKind.i64.wrap ((i : Int) + j) = p := by rw [show (i : Int) + j = (p : Int) by omega]; exact wrap_nat _ (by omega)
   have hpN : p < N := by omega
   obtain ⟨cp, fp⟩ := HO.out.cellAt hpN
   generalize (splice s.b i (zs.take j)).getD p 0 = z9 at cp
   have hst := HO.out.store rfl p z ⟨za, zb⟩ (by rw [HSL.out]; exact hpN)
   have HS2 := Lib.hid (HSN.out j (by rw [HML.out]; exact hlt))
   rw [hp, hz] at HS2
   rw [HS2.out] at hst
   have HST := Lib.hid hst
   clear hst hz hc
   go_wp2
   obtain ⟨mS, mh⟩ : ∃ S : World → Prop, ∀ w', S w' ↔ (w'.cell? ⟨bf, 0, none⟩ = some (.slice (some ⟨gb, 0, none⟩) N capb) ∧ w'.cell? ⟨bb, bo + j, none⟩ = some (.int .u8 z)) := ⟨_, fun _ => Iff.rfl⟩
   have mk0 : ∀ x : Memb mS, x.at_.cell? ⟨bf, 0, none⟩ = some (.slice (some ⟨gb, 0, none⟩) N capb) := fun x => ((mh _).1 x.is).1
   have mk1 : ∀ x : Memb mS, x.at_.cell? ⟨bb, bo + j, none⟩ = some (.int .u8 z) := fun x => ((mh _).1 x.is).2
   have mn : Nonempty (Memb mS) := ⟨⟨(wv).drew, (mh _).2 ⟨y0, hcw⟩⟩⟩
   have mH := Lib.hid mh
   clear mh
   refine wp_region_mix [12] (InS mS) (by kernel_rfl) (by kernel_rfl) (InS.mk ((mH.out _).2 ⟨y0, hcw⟩)) ?_
   refine wpMix_seg 12 (by kernel_rfl) (by decide) ?_
   simp only [tds]
   repeat (go_big_quiet_step (fail))
   refine wpQuiet_nil ?_
   refine wpMix_eff (by kernel_rfl) ?_
   go_wp2
   refine MixK.last (by kernel_rfl) ?_
   refine wpMix_nil ?_
   clear mk0 mk1 mn mH
   go_wp2
   go_roundw
   case rel => exact ⟨j + 1, hlt, by go_num, HST.out.drew, (HK.out.put _ _).drew⟩
   case measure => simp [intOf]; omega
  ·obtain rfl : j = m := by omega
   have hfin := HO.out
   rw [List.take_of_length_le (by rw [HML.out]; exact Nat.le_refl _)] at hfin
   have HFIN := Lib.hid hfin
   clear hfin
   go_wp2
   go_end0
   exact ⟨rfl, H.out.bytes HK.out HFIN.out, HK.out⟩
open Go.RowKit
structure Rb (w : World) (L : RL) (A : Option Addr) (n cap : Nat) (zs : List Int) : Prop where
  bs : Bs w A n cap zs
  ap : ∀ b off, 0 < n → A = some ⟨b, off, none⟩ → ¬ L.O b
theorem Rb.later {w w' : World} {L : RL} {A : Option Addr} {n cap : Nat} {zs : List Int} (h : Rb w L A n cap zs) (hk : Keeps None w w') : Rb w' L A n cap zs := ⟨h.bs.keeps hk (fun _ _ _ _ _ h => h), h.ap⟩
def FS.armR (s : FS) (after : Int) (pick : List Int) : FS := if after < 0 then { s with left := -1, pick := [] } else { s with left := min after 4611686018427387904, pick := pick }
theorem RAt.rearm {w w1 w' : World} {B : Nat} {L : RL} {s s' : FS} {A : Option Addr} {c : Nat} {ps : List Int} (h : RAt w B L s) (k1 : Keeps (fun k => k = L.bf) w w1) (o1 : Own w1 w.heap.size (.slice A ps.length c) ps) (hk : Keeps (fun k => k = L.bf) w1 w')
    (hf : Blk w' L.bf [.slice (some ⟨L.gb, 0, none⟩) L.N L.capb, .slice (some ⟨L.ge, 0, none⟩) L.n L.n, .int .i64 s'.steps, .int .i64 s'.left, .slice A ps.length c, .bool s'.dark] 65)
    (hb : s'.b = s.b) (he : s'.er = s.er) (ha : 0 ≤ s'.left → ps = s'.pick) (hm : -1 ≤ s'.left) (hx : s'.left ≤ 9223372036854775807) (hpl : ps.length ≤ 140737488355328) :
    RTurn w w' B L { L with pA := A, pc := c, pk := ps } s' := by
 have hbf : L.bf < w.heap.size := h.lt _ (.inl (.inl rfl))
 have hnew : ∀ g, (Value.slice A ps.length c).ownBlock = some g → w.heap.size ≤ g := fun g hg => Nat.le_of_not_lt fun hlt => o1.notBelow hlt hg
 have k2 : Keeps (fun k => k = L.bf) w w' := k1.trans hk (fun _ h => h) (fun _ _ h => h)
 refine ⟨⟨hf, by rw [hb]; exact h.b.keeps k2 (fun b e => by cases e; exact fun e => h.d1 e.symm), by rw [he]; exact k2.blk h.e (fun e => h.d2 e.symm), ?_, by rw [he]; exact h.el, ha, hm, hx, h.nN, h.n0, h.n9, h.bB, h.eB, h.d1, h.d2, h.d3, ?_, hpl⟩,
  k2.mono (fun i _ e => .inl (.inl e)), rfl, rfl, ?_⟩
 ·exact (o1.lower (Nat.le_trans h.bB (Nat.le_of_lt hbf))).keeps hk (fun b e hb => by have := hnew b e; subst hb; omega)
 ·intro g hg hS
  have h1 := hnew g hg
  have h2 := h.lt g (.inl hS)
  omega
 ·intro k hk'
  rcases hk' with hS | hp
  ·exact .inl (.inl hS)
  ·exact .inr (hnew k hp)
set_option maxRecDepth 100000 in
theorem rfboot_any (B : Nat) (L : RL) (s : FS) (q : Nat) (w : World) (h : RAt w B L s) (hq : L.bf = q) : Calls Tryz.prog 20 #[.pointer (some ⟨q, 0, none⟩)] w fun e w' => e = .returned (.tuple #[]) ∧ ∃ L', RTurn w w' B L L' s.bootF := by
 obtain ⟨bf, gb, ge, N, capb, n, pA, pc, pk⟩ := L
 simp only [] at hq
 subst hq
 have c0 := h.f.cellD 0 _ rfl
 have c1 := h.f.cellD 1 _ rfl
 have c2 := h.f.cellD 2 _ rfl
 have c3 := h.f.cellD 3 _ rfl
 have c4 := h.f.cellD 4 _ rfl
 have c5 := h.f.cellD 5 _ rfl
 have hcap := h.bs.le
 have hcmx := h.bs.max
 have hN := h.nN
 have hn0 := h.n0
 have hn9 := h.n9
 have H := Lib.hid h
 simp only [] at c0 c1 c2 c3 c4 c5 hcap hcmx hN hn0 hn9
 have hNb : N ≤ 262144 := by omega
 have hN1 : 1024 ≤ N := by omega
 have HN := Lib.hid hN
 clear h hN
 have z0 := H.out.f.frozen 0
 have z1 := H.out.f.frozen 1
 have z2 := H.out.f.frozen 2
 have z3 := H.out.f.frozen 3
 have z4 := H.out.f.frozen 4
 have z5 := H.out.f.frozen 5
 simp only [] at z0 z1 z2 z3 z4 z5
 go_enter Tryz.func20, Tryz.ntmps20
 go_wp2
 go_end0
 refine ⟨rfl, _, H.out.rearm (s' := s.bootF) (A := none) (c := 0) (ps := []) (Keeps.refl _ w) (Own.nil _ _) ((((Keeps.self bf w).put 5 (.bool false)).put 3 (.int .i64 (-1))).put 4 (.slice none 0 0)) (((H.out.f.set 5 (.bool false)).set 3 (.int .i64 (-1))).set 4 (.slice none 0 0)) rfl rfl (fun h => absurd h (show ¬ (0 : Int) ≤ -1 by decide)) (show (-1 : Int) ≤ -1 by decide) (show (-1 : Int) ≤ 9223372036854775807 by decide) (by decide)⟩
set_option maxRecDepth 100000 in
theorem rfarm_any (B : Nat) (L : RL) (s : FS) (q : Nat) (after : Int) (A : Option Addr) (m c : Nat) (ps : List Int) (w : World) (h : RAt w B L s) (hq : L.bf = q) (hb : Rb w L A m c ps) (hm : m ≤ 140737488355328) :
    Calls Tryz.prog 18 #[.pointer (some ⟨q, 0, none⟩), .int .i64 after, .slice A m c] w fun e w' => e = .returned (.tuple #[]) ∧ ∃ L', RTurn w w' B L L' (s.armR after ps) := by
 have CP := Lib.hid (fun w => cap_any after (-1) 4611686018427387904 (by decide) w)
 obtain ⟨lf, hlf⟩ : ∃ x, max (-1) (min after 4611686018427387904) = x := ⟨_, rfl⟩
 rw [hlf] at CP
 have AF : Hid ((s.armR after ps).steps = s.steps ∧ (s.armR after ps).dark = s.dark ∧ (s.armR after ps).left = lf ∧ (s.armR after ps).b = s.b ∧ (s.armR after ps).er = s.er ∧ (0 ≤ (s.armR after ps).left → ps = (s.armR after ps).pick) ∧ -1 ≤ (s.armR after ps).left ∧ (s.armR after ps).left ≤ 9223372036854775807) := by
  show _ ∧ _
  unfold FS.armR
  split
  ·rename_i q
   exact ⟨rfl, rfl, by show (-1 : Int) = lf; omega, rfl, rfl, fun h => absurd h (show ¬ (0 : Int) ≤ -1 by decide), (show (-1 : Int) ≤ -1 by decide), (show (-1 : Int) ≤ 9223372036854775807 by decide)⟩
  ·rename_i q
   exact ⟨rfl, rfl, by show min after 4611686018427387904 = lf; omega, rfl, rfl, fun _ => rfl, by show -1 ≤ min after 4611686018427387904; omega, by show min after 4611686018427387904 ≤ 9223372036854775807; omega⟩
 clear hlf
 generalize s.armR after ps = s' at *
 have hle := hb.bs.le
 have hmx := hb.bs.max
 have HB := Lib.hid (fun w1 (hk : Keeps (fun k => k = L.bf) w w1) => hb.bs.keeps hk (fun b off h0 _ e e2 => hb.ap b off h0 e (.inl (.inl e2))))
 have HL := Lib.hid hb.bs.len
 clear hb
 obtain ⟨bf, gb, ge, N, capb, n, pA, pc, pk⟩ := L
 simp only [] at hq
 subst hq
 have c0 := h.f.cellD 0 _ rfl
 have c1 := h.f.cellD 1 _ rfl
 have c2 := h.f.cellD 2 _ rfl
 have c3 := h.f.cellD 3 _ rfl
 have c4 := h.f.cellD 4 _ rfl
 have c5 := h.f.cellD 5 _ rfl
 have hcap := h.bs.le
 have hcmx := h.bs.max
 have hN := h.nN
 have hn0 := h.n0
 have hn9 := h.n9
 have H := Lib.hid h
 simp only [] at c0 c1 c2 c3 c4 c5 hcap hcmx hN hn0 hn9
 have hNb : N ≤ 262144 := by omega
 have hN1 : 1024 ≤ N := by omega
 have HN := Lib.hid hN
 clear h hN
 have z0 := H.out.f.frozen 0
 have z1 := H.out.f.frozen 1
 have z2 := H.out.f.frozen 2
 have z3 := H.out.f.frozen 3
 have z4 := H.out.f.frozen 4
 have z5 := H.out.f.frozen 5
 simp only [] at z0 z1 z2 z3 z4 z5
 simp only [] at HB
 go_enter Tryz.func18, Tryz.ntmps18
 go_wp2_with fail
 refine (CP.out _).mono ?_
 rintro e w' ⟨rfl, rfl⟩
 go_wp2_with (at_builtin; refine Hid.out ?_)
 refine Lib.hid ?_
 have K1 : Hid (Keeps (fun k => k = bf) w (w.setCell ⟨bf, 3, none⟩ (.int .i64 lf))) := (Keeps.self bf w).put 3 _
 have F1 := Lib.hid (H.out.f.set 3 (.int .i64 lf))
 have B1 := Lib.hid (HB.out _ K1.out)
 generalize w.setCell ⟨bf, 3, none⟩ (.int .i64 lf) = w1 at *
 refine wpList_append_bs (Own.nil _ w.heap.size) B1.out (by simp; omega) K1.out.size rfl rfl rfl rfl rfl ?_
 intro v3 w3 ho3 hk3
 rw [List.nil_append] at ho3
 obtain ⟨A3, cap3, rfl, bs3, -⟩ := ho3.shape
 have O3 := Lib.hid ho3
 have K3 : Hid (Keeps None w1 w3) := hk3.mono (fun i hi e => by simp [Value.ownBlock] at e)
 have F3 := Lib.hid (K3.out.blk F1.out (fun h => h))
 clear ho3 hk3 bs3 c0 c1 c2 c3 c4 c5 z0 z1 z2 z3 z4 z5
 have y4 := F3.out.cellD 4 _ rfl
 have z4 := F3.out.frozen 4
 go_wp2
 go_end0
 obtain ⟨f1, f2, f3, f4, f5, f6, f7, f8⟩ := AF.out
 have hk : Keeps (fun k => k = bf) w3 (w3.setCell ⟨bf, 4, none⟩ (.slice A3 ps.length cap3)) := (Keeps.self bf w3).put 4 _
 have hbk := F3.out.set 4 (.slice A3 ps.length cap3)
 refine ⟨rfl, _, H.out.rearm (K1.out.trans K3.out (fun _ h => h) (fun _ _ h => h.elim)) O3.out hk (s' := s') ?_ f4 f5 f6 f7 f8 (by rw [HL.out]; exact hm)⟩
 rw [f1, f2, f3]
 exact hbk
open Go.RowKit
theorem stepped_dark {s : FS} (h : ¬ s.left = 0) : s.stepped.dark = s.dark := by
 unfold FS.stepped
 rw [if_neg h]
 split <;> rfl
theorem stepped_cut {s : FS} (h : s.left = 0) : s.stepped.left = -1 ∧ s.stepped.pick = [] := by
 unfold FS.stepped
 rw [if_neg (by omega), if_pos h]
 exact ⟨rfl, rfl⟩
def RProgTold (w : World) (B : Nat) (L : RL) (r : FS × Int) (e : Ending) (w' : World) : Prop := e = .returned (.int .i64 r.2) ∧ ∃ L', RTurn w w' B L L' r.1
theorem RAt.unpick {w w' : World} {B : Nat} {L : RL} {s : FS} (h : RAt w B L s) (hl : s.left = -1) (hw : w' = w.setCell ⟨L.bf, 4, none⟩ (.slice none 0 0)) : RTurn w w' B L { L with pA := none, pc := 0, pk := [] } s := by
 subst hw
 exact h.rearm (s' := s) (A := none) (c := 0) (ps := []) (Keeps.refl _ w) (Own.nil _ _) ((Keeps.self L.bf w).put 4 (.slice none 0 0)) (h.f.set 4 (.slice none 0 0)) rfl rfl (fun h0 => by omega) (by omega) (by omega) (by decide)
theorem tl212 (P : Prop) (h : P := by
 obtain ⟨bf, gb, ge, N, capb, n, pA, pc, pk⟩ := L
 simp only [] at hq
 subst hq
 have c0 := h.f.cellD 0 _ rfl
 have c1 := h.f.cellD 1 _ rfl
 have c2 := h.f.cellD 2 _ rfl
 have c3 := h.f.cellD 3 _ rfl
 have c4 := h.f.cellD 4 _ rfl
 have c5 := h.f.cellD 5 _ rfl
 have hcap := h.bs.le
 have hcmx := h.bs.max
 have hN := h.nN
 have hn0 := h.n0
 have hn9 := h.n9
 have H := Lib.hid h
 simp only [] at c0 c1 c2 c3 c4 c5 hcap hcmx hN hn0 hn9
 have hNb : N ≤ 262144 := by omega
 have hN1 : 1024 ≤ N := by omega
 have HN := Lib.hid hN
 clear h hN
 rw [HL0.out] at HT
 rw [hd] at c5
 clear hd HL0
 simp only [] at WI
 go_enter Tryz.func107, Tryz.ntmps107
 go_wp2_with fail
 refine (WI.out _).mono ?_
 rintro e w' ⟨rfl, rfl⟩
 go_wp2
 go_ret
 rw [PG.out]
 exact ⟨rfl, _, HT.out⟩) : P := h
theorem tl213 (P : Prop) (h : P := by
 clear hb
 exact tl212 _) : P := h
theorem tl214 (P : Prop) (h : P := by
 exact (K4.out.trans ((Keeps.self bf w4).put 4 (.slice none 0 0)) (T := fun k => k = bf ∨ k = gb ∨ k = ge) (fun _ h => h) (fun _ _ h => .inl h)).mono (fun _ _ h => .inl h)) : P := h
set_option maxRecDepth 100000 in
set_option maxHeartbeats 1600000 in
theorem rfprogram_any (B : Nat) (L : RL) (s : FS) (q : Nat) (a : Int) (A : Option Addr) (m c : Nat) (zs : List Int) (w : World) (h : RAt w B L s) (hq : L.bf = q) (hb : Rb w L A m c zs) (hst : 0 ≤ s.steps ∧ s.steps + m ≤ 1000000000000) :
    Calls Tryz.prog 107 #[.pointer (some ⟨q, 0, none⟩), .int .i64 a, .slice A m c] w (RProgTold w B L (s.progF a zs)) := by
 have hnn := h.n9
 have hnN := h.nN
 have WI := Lib.hid (fun w => rfwithin_any a m L.N (by omega) w)
 have hbl := h.bl
 have hml := hb.bs.len
 have hle := hb.bs.le
 have hmx := hb.bs.max
 have PF : Hid (s.progF a zs = if s.dark = true then (s, 5) else if withinB a m L.N = false then (s, 2) else if a % 8 ≠ 0 ∨ m % 8 ≠ 0 then (s, 3) else if canN ((s.b.drop a.toNat).take m) zs = false then (s, 4) else progW (m / 8) s a.toNat zs) := by
  show s.progF a zs = _
  unfold FS.progF; rw [hbl, hml]
 have HT := Lib.hid (RTurn.self h)
 obtain ⟨L0, hL0⟩ : ∃ x, x = L := ⟨_, rfl⟩
 have HL0 := Lib.hid hL0
 rw [← hL0] at HT
 clear hL0 hbl hnn hnN
 cases hd : s.dark with
 | true =>
  rw [hd] at PF
  have PG : Hid (s.progF a zs = (s, 5)) := by show _ = _; rw [PF.out, if_pos rfl]
  clear WI hb
  obtain ⟨bf, gb, ge, N, capb, n, pA, pc, pk⟩ := L
  simp only [] at hq
  subst hq
  have c0 := h.f.cellD 0 _ rfl
  have c1 := h.f.cellD 1 _ rfl
  have c2 := h.f.cellD 2 _ rfl
  have c3 := h.f.cellD 3 _ rfl
  have c4 := h.f.cellD 4 _ rfl
  have c5 := h.f.cellD 5 _ rfl
  have hcap := h.bs.le
  have hcmx := h.bs.max
  have hN := h.nN
  have hn0 := h.n0
  have hn9 := h.n9
  have H := Lib.hid h
  simp only [] at c0 c1 c2 c3 c4 c5 hcap hcmx hN hn0 hn9
  have hNb : N ≤ 262144 := by omega
  have hN1 : 1024 ≤ N := by omega
  have HN := Lib.hid hN
  clear h hN
  rw [HL0.out] at HT
  rw [hd] at c5
  clear hd HL0
  go_enter Tryz.func107, Tryz.ntmps107
  go_wp2
  go_ret
  rw [PG.out]
  exact ⟨rfl, _, HT.out⟩
 | false =>
 rw [hd] at PF
 cases hw : withinB a m L.N with
 | false =>
  rw [hw] at PF WI
  have PG : Hid (s.progF a zs = (s, 2)) := by show _ = _; rw [PF.out, if_neg (by decide), if_pos rfl]
  clear hb hw
  exact tl212 _
 | true =>
 rw [hw] at PF WI
 obtain ⟨i, j, rfl, hj, hij⟩ := within_nat hw
 obtain rfl : m = j := by omega
 simp only [Int.toNat_natCast] at PF
 clear hw hj
 by_cases g1 : i % 8 = 0
 case neg =>
  have PG : Hid (s.progF i zs = (s, 3)) := by show _ = _; rw [PF.out, if_neg (by decide), if_neg (by decide), if_pos (.inl (by omega))]
  have e1 : ((i : Int) % 8 != 0) = true := by simp; omega
  exact tl213 _
 have e1 : ((i : Int) % 8 != 0) = false := by simp; omega
 by_cases g2 : m % 8 = 0
 case neg =>
  have PG : Hid (s.progF i zs = (s, 3)) := by show _ = _; rw [PF.out, if_neg (by decide), if_neg (by decide), if_pos (.inr g2)]
  have e2 : ((m : Int) % 8 != 0) = true := by simp; omega
  exact tl213 _
 have e2 : ((m : Int) % 8 != 0) = false := by simp; omega
 by_cases hcp : L.capb = i
 ·have hN := h.bs.le
  obtain rfl : m = 0 := by omega
  have e0 : zs = [] := List.eq_nil_of_length_eq_zero hml
  subst e0
  have CN := Lib.hid (rcan_any (some ⟨L.gb, 0, none⟩) A 0 0 0 c [] [] w (Bs.empty _ _ _ (by omega)) hb.bs)
  have hcn : canN [] [] = true := rfl
  rw [hcn] at CN
  have PG : Hid (s.progF i [] = (s, 0)) := by show _ = _; rw [PF.out, if_neg (by decide), if_neg (by decide), if_neg (by omega), List.take_zero, hcn, if_neg (by decide)]; rfl
  clear hb hcn PF hml
  obtain ⟨bf, gb, ge, N, capb, n, pA, pc, pk⟩ := L
  simp only [] at hq
  subst hq
  have c0 := h.f.cellD 0 _ rfl
  have c1 := h.f.cellD 1 _ rfl
  have c2 := h.f.cellD 2 _ rfl
  have c3 := h.f.cellD 3 _ rfl
  have c4 := h.f.cellD 4 _ rfl
  have c5 := h.f.cellD 5 _ rfl
  have hcap := h.bs.le
  have hcmx := h.bs.max
  have hN := h.nN
  have hn0 := h.n0
  have hn9 := h.n9
  have H := Lib.hid h
  simp only [] at c0 c1 c2 c3 c4 c5 hcap hcmx hN hn0 hn9
  have hNb : N ≤ 262144 := by omega
  have hN1 : 1024 ≤ N := by omega
  have HN := Lib.hid hN
  clear h hN
  rw [HL0.out] at HT
  rw [hd] at c5
  clear hd HL0
  simp only [] at WI CN hcp hij
  subst hcp
  go_enter Tryz.func107, Tryz.ntmps107
  go_wp2_with fail
  refine (WI.out _).mono ?_
  rintro e w' ⟨rfl, rfl⟩
  go_wp2_with fail
  refine CN.out.mono ?_
  rintro e w1 ⟨rfl, q0, rfl⟩
  go_wp2
  go_loopw [7] (fun iv wr => iv = .int .i64 0 ∧ wr = w.drewN q0) (fun _ _ => 0)
  case atStart => exact ⟨rfl, rfl⟩
  case round =>
   obtain ⟨rfl, rfl⟩ := hrel
   go_wp2
   go_ret
   rw [PG.out]
   exact ⟨rfl, _, HT.out.at_.later ((Keeps.refl None w).drewN q0), (Keeps.refl _ w).drewN q0, rfl, rfl, fun _ h => .inl h⟩
 have hdi := rcan_any _ A m _ m c _ zs w (h.cut (i := i) (j := m) hij) hb.bs
 have DI := Lib.hid hdi
 clear hdi
 have hsub : i + m - i = m := by omega
 cases hc : canN ((s.b.drop i).take m) zs with
 | false =>
  rw [hc] at PF DI
  have PG : Hid (s.progF i zs = (s, 4)) := by show _ = _; rw [PF.out, if_neg (by decide), if_neg (by decide), if_neg (by omega), if_pos rfl]
  clear hb hc
  obtain ⟨bf, gb, ge, N, capb, n, pA, pc, pk⟩ := L
  simp only [] at hq
  subst hq
  have c0 := h.f.cellD 0 _ rfl
  have c1 := h.f.cellD 1 _ rfl
  have c2 := h.f.cellD 2 _ rfl
  have c3 := h.f.cellD 3 _ rfl
  have c4 := h.f.cellD 4 _ rfl
  have c5 := h.f.cellD 5 _ rfl
  have hcap := h.bs.le
  have hcmx := h.bs.max
  have hN := h.nN
  have hn0 := h.n0
  have hn9 := h.n9
  have H := Lib.hid h
  simp only [] at c0 c1 c2 c3 c4 c5 hcap hcmx hN hn0 hn9
  have hNb : N ≤ 262144 := by omega
  have hN1 : 1024 ≤ N := by omega
  have HN := Lib.hid hN
  clear h hN
  rw [HL0.out] at HT
  rw [hd] at c5
  clear hd HL0
  simp only [] at WI DI hcp hij
  go_enter Tryz.func107, Tryz.ntmps107
  go_wp2_with fail
  refine (WI.out _).mono ?_
  rintro e w' ⟨rfl, rfl⟩
  go_wp2_with fail
  refine DI.out.mono ?_
  rintro e w1 ⟨rfl, q, rfl⟩
  go_wp2
  go_ret
  rw [PG.out]
  exact ⟨rfl, _, HT.out.at_.later ((Keeps.refl None w).drewN q), (Keeps.refl _ w).drewN q, rfl, rfl, fun _ h => .inl h⟩
 | true =>
 rw [hc] at PF DI
 obtain ⟨K, hK⟩ : ∃ K, m = 8 * K := ⟨m / 8, by omega⟩
 obtain ⟨R, hR⟩ : ∃ R, progW K s i zs = R := ⟨_, rfl⟩
 have PG : Hid (s.progF i zs = R) := by
  exact tl75 _
 rw [PG.out]
 have HR := Lib.hid hR
 have HC := Lib.hid hc
 have HML := Lib.hid hml
 have HB := Lib.hid hb.bs
 have HA := Lib.hid (fun b off h0 e hS => hb.ap b off h0 e (.inl hS))
 have hK8 : m ≤ 262144 := by have := h.nN; have := h.n9; omega
 have HK := Lib.hid hK
 obtain ⟨st1, st2⟩ := hst
 have HD := Lib.hid hd
 clear hb hc PF PG hR hml HT hK
 obtain ⟨bf, gb, ge, N, capb, n, pA, pc, pk⟩ := L
 simp only [] at hq
 subst hq
 have c0 := h.f.cellD 0 _ rfl
 have c1 := h.f.cellD 1 _ rfl
 have c2 := h.f.cellD 2 _ rfl
 have c3 := h.f.cellD 3 _ rfl
 have c4 := h.f.cellD 4 _ rfl
 have c5 := h.f.cellD 5 _ rfl
 have hcap := h.bs.le
 have hcmx := h.bs.max
 have hN := h.nN
 have hn0 := h.n0
 have hn9 := h.n9
 have H := Lib.hid h
 simp only [] at c0 c1 c2 c3 c4 c5 hcap hcmx hN hn0 hn9
 have hNb : N ≤ 262144 := by omega
 have hN1 : 1024 ≤ N := by omega
 have HN := Lib.hid hN
 clear h hN
 rw [hd] at c5
 clear hd HL0
 simp only [] at WI DI
 simp only [RL.S] at HA
 simp only [] at hij hcp
 go_enter Tryz.func107, Tryz.ntmps107
 go_wp2_with fail
 refine (WI.out _).mono ?_
 rintro e w' ⟨rfl, rfl⟩
 go_wp2_with fail
 refine DI.out.mono ?_
 rintro e w1 ⟨rfl, q0, rfl⟩
 go_wp2
 have D0 : Hid (Keeps (fun k => k = bf ∨ k = gb ∨ k = ge) w (w.drewN q0)) := (Keeps.refl _ w).drewN q0
 have H0 := Lib.hid (H.out.later ((Keeps.refl None w).drewN q0))
 clear WI DI c0 c1 c2 c3 c4 c5
 go_loopw [7] (fun iv wr => ∃ (j : Nat) (s1 : FS), j ≤ K ∧ iv = .int .i64 (8 * j : Nat) ∧ RAt wr B ⟨bf, gb, ge, N, capb, n, pA, pc, pk⟩ s1 ∧ s1.dark = false ∧ Keeps (fun k => k = bf ∨ k = gb ∨ k = ge) w wr ∧ progW (K - j) s1 (i + 8 * j) (zs.drop (8 * j)) = R ∧ canN ((s1.b.drop (i + 8 * j)).take (8 * (K - j))) (zs.drop (8 * j)) = true ∧ 0 ≤ s1.steps ∧ s1.steps + (K - j : Nat) ≤ 1000000000000) (fun iv _ => 8 * K - (intOf iv).toNat)
 case atStart =>
  refine ⟨0, s, Nat.zero_le _, rfl, H0.out, HD.out, D0.out, by simpa using HR.out, ?_, st1, by have := HK.out; omega⟩
  have := HC.out
  rw [HK.out] at this
  simpa using this
 case round =>
  obtain ⟨j, s1, hjK, rfl, hF, hdk, hKp, hpr, hcn, hs1, hs2⟩ := hrel
  obtain ⟨wv, rfl⟩ : ∃ x, x = wr := ⟨_, rfl⟩
  clear H0 D0
  by_cases hlt : j < K
  ·obtain ⟨k, hk⟩ : ∃ k, K - j = k + 1 := ⟨K - j - 1, by omega⟩
   rw [hk] at hpr hcn hs2
   obtain ⟨iv, hiv⟩ : ∃ iv, 8 * j = iv := ⟨_, rfl⟩
   obtain ⟨p, hp⟩ : ∃ p, i + iv = p := ⟨_, rfl⟩
   rw [hiv] at hpr hcn ⊢
   rw [hp] at hpr hcn
   have hm8 : iv + 8 ≤ m := by have := HK.out; omega
   have hpN : p + 8 ≤ N := by omega
   have x1 : decide (iv < m) = true := decide_eq_true (by omega)
   have x2 : decide ((iv : Int) < m) = true := decide_eq_true (by omega)
   have CW := Lib.hid (can_word hcn)
   have HF := Lib.hid hF
   have HKp := Lib.hid hKp
   have y0 := hF.f.cellD 0 _ rfl
   simp only [] at y0
   obtain ⟨bb, bo, hAe, hbb, -⟩ := HB.out.at_ (by omega)
   subst hAe
   have NS1 := Lib.hid (HA.out bb bo (by omega) rfl)
   have ce : ¬ c = iv := by omega
   have cpe : ¬ capb = p := by omega
   have w1 : IntKind.i64.wrap ((i : Int) + iv) = p := by rw [show (i : Int) + iv = (p : Int) by omega]; exact wrap_nat _ (by omega)
   have w2 : IntKind.i64.wrap ((p : Int) + 8) = p + 8 := IntWalk.i64_in _ (by omega)
   have w3 : IntKind.i64.wrap ((iv : Int) + 8) = iv + 8 := IntWalk.i64_in _ (by omega)
   have w4 : p + 8 - p = 8 := by omega
   have w5 : iv + 8 - iv = 8 := by omega
   have BRK := Lib.hid (fun w' (hh : RAt w' B ⟨bf, gb, ge, N, capb, n, pA, pc, pk⟩ s1) => rfstep_any B _ s1 bf w' hh rfl hdk ⟨hs1, by omega⟩)
   have BW := Lib.hid (fun w' (hh : Keeps (fun k => k = bf ∨ k = gb ∨ k = ge) w w') => Bs.take (k := 8) ((HB.out.keeps hh (fun b off _ _ e => by cases e; exact NS1.out)).drop (k := iv) (by omega)) (by omega))
   have HCN := Lib.hid hcn
   have HPR := Lib.hid hpr
   have LEN8 : Hid (((zs.drop iv).take 8).length = 8) := by show ((zs.drop iv).take 8).length = 8; rw [List.length_take, List.length_drop, HML.out]; omega
   have ST := Lib.hid (stepped_steps_le (s := s1) (a := (k : Int)) (b := 1000000000000) hs1 (by omega))
   have E8 : Hid (8 * (j + 1) = iv + 8) := by show 8 * (j + 1) = iv + 8; omega
   have EKj : Hid (K - (j + 1) = k) := by show K - (j + 1) = k; omega
   have EP : Hid (i + (iv + 8) = p + 8) := by show i + (iv + 8) = p + 8; omega
   have HDK := Lib.hid hdk
   clear hF hKp hcn hpr hs1 hs2 hiv hp hk hdk
   by_cases h0 : s1.left = 0
   ·have EL : Hid (decide (s1.left = 0) = true) := decide_eq_true h0
    have ER := Lib.hid (progW_cut HPR.out h0)
    have hpk := HF.out.armed (by omega)
    simp only [] at hpk
    have HPK := Lib.hid hpk
    rw [← HPK.out] at ER
    have SC := Lib.hid (stepped_cut h0)
    clear h0 hpk HPK
    go_wp2_with fail
    refine (BRK.out _ HF.out).mono ?_
    rintro e w2 ⟨rfl, kb, hf2⟩
    rw [EL.out]
    have y4 := hf2.f.cellD 4 _ rfl
    simp only [] at y4
    have K2 : Hid (Keeps (fun k => k = bf ∨ k = gb ∨ k = ge) w w2) := HKp.out.trans kb (fun _ h => h) (fun _ _ h => .inl h)
    have F2 := Lib.hid hf2
    have C2 : Hid (Bs w2 (some ⟨gb, p, none⟩) 8 (capb - p) ((s1.b.drop p).take 8)) := by have := hf2.cut (i := p) (j := 8) hpN; rwa [FS.stepped_b] at this
    have P2 : Hid (Bs w2 pA pk.length pc pk) := ownBs (show Own w2 B (.slice pA pk.length pc) pk from hf2.p)
    have W2 := Lib.hid (BW.out w2 K2.out)
    clear kb hf2 HF HKp BW BRK
    go_wp2_with fail
    refine (rtorn_any _ _ _ _ _ _ _ _ _ _ _ _ _ C2.out W2.out P2.out (by omega)).mono ?_
    rintro e w3 ⟨v3, rfl, o3, k3⟩
    obtain ⟨A3, c3, rfl, bs3, -⟩ := o3.shape
    have TL := tornN_len8 (ps := pk) CW.out
    rw [LEN8.out] at TL
    rw [TL] at bs3 ⊢
    have F3 := Lib.hid (F2.out.later k3)
    have K3 : Hid (Keeps (fun k => k = bf ∨ k = gb ∨ k = ge) w w3) := K2.out.trans k3 (fun _ h => h) (fun _ _ h => h.elim)
    have SE := Lib.hid (rfset_any B _ s1.stepped bf p A3 8 c3 _ w3 F3.out rfl bs3 hpN (fun b off _ e e2 => by
     subst e
     have := F2.out.lt b (by subst e2; exact .inl (.inr (.inl rfl)))
     exact o3.notBelow this rfl))
    clear o3 k3 bs3 TL
    go_wp2_with fail
    refine SE.out.mono ?_
    rintro e w4 ⟨rfl, h4, k4⟩
    have H4 := Lib.hid h4
    have K4 : Hid (Keeps (fun k => k = bf ∨ k = gb ∨ k = ge) w w4) := K3.out.trans k4 (fun _ h => h) (fun _ _ h => .inr (.inl h))
    have z4 := h4.f.frozen 4
    have y4 := h4.f.cellD 4 _ rfl
    simp only [] at z4 y4
    clear h4 k4 SE
    go_wp2
    go_ret
    have T5 := H4.out.unpick SC.out.1 rfl
    refine ⟨by rw [ER.out]; rfl, ⟨bf, gb, ge, N, capb, n, none, 0, []⟩, ?_, ?_, rfl, rfl, fun k h => ?_⟩
    ·rw [ER.out]
     have := T5.at_
     rwa [FS.stepped_b] at this
    ·exact tl214 _
    ·rcases h with h | h
     ·exact .inl (.inl h)
     ·cases h
   ·have EL : Hid (decide (s1.left = 0) = false) := decide_eq_false h0
    have ER := Lib.hid (progW_go HPR.out h0)
    have SD : Hid (s1.stepped.dark = false) := (stepped_dark h0).trans HDK.out
    clear h0
    go_wp2_with fail
    refine (BRK.out _ HF.out).mono ?_
    rintro e w2 ⟨rfl, kb, hf2⟩
    rw [EL.out]
    have K2 : Hid (Keeps (fun k => k = bf ∨ k = gb ∨ k = ge) w w2) := HKp.out.trans kb (fun _ h => h) (fun _ _ h => .inl h)
    have F2 := Lib.hid hf2
    have W2 := Lib.hid (BW.out w2 K2.out)
    have BL := Lib.hid HF.out.bl
    have SE := Lib.hid (rfset_any B _ s1.stepped bf p _ 8 _ _ w2 F2.out rfl W2.out hpN (fun b off _ e e2 => by
     cases e
     exact NS1.out (.inr (.inl e2))))
    clear kb hf2 HF HKp BW BRK
    go_wp2_with fail
    refine SE.out.mono ?_
    rintro e w4 ⟨rfl, h4, k4⟩
    rw [FS.stepped_b] at h4
    have F4 := Lib.hid h4
    have K4 : Hid (Keeps (fun k => k = bf ∨ k = gb ∨ k = ge) w w4) := K2.out.trans k4 (fun _ h => h) (fun _ _ h => .inr (.inl h))
    clear h4 k4 SE
    go_wp2
    go_roundw
    case rel =>
     refine ⟨j + 1, _, hlt, val_int (by rw [E8.out]; omega), F4.out, SD.out, K4.out, ?_, ?_, ?_, ?_⟩
     ·rw [EKj.out, E8.out, EP.out, ← ER.out, List.drop_drop]
     ·rw [EKj.out, E8.out, EP.out]
      exact can_rest LEN8.out (by rw [BL.out]; exact hpN) HCN.out
     ·exact ST.out.1
     ·rw [EKj.out]; exact ST.out.2
    case measure => have := E8.out; simp [intOf]; omega
  ·obtain rfl : j = K := by omega
   rw [Nat.sub_self] at hpr
   have ER : Hid (R = (s1, 0)) := hpr.symm
   have HF := Lib.hid hF
   have HKp := Lib.hid hKp
   have x1 : decide (8 * j < m) = false := decide_eq_false (by have := HK.out; omega)
   have x2 : decide (8 * (j : Int) < m) = false := decide_eq_false (by have := HK.out; omega)
   have x3 : decide (((8 * j : Nat) : Int) < m) = false := decide_eq_false (by have := HK.out; omega)
   clear hF hKp hpr hcn hs1 hs2
   go_wp2
   go_ret
   rw [ER.out]
   exact ⟨rfl, _, HF.out, HKp.out.mono (fun _ _ h => .inl h), rfl, rfl, fun _ h => .inl h⟩
open Go.RowKit
theorem tl216 (P : Prop) (h : P := by
 rw [hd] at c5
 clear hd hel her
 go_enter Tryz.func126, Tryz.ntmps126
 go_wp2
 go_ret
 rw [EG.out]
 exact ⟨rfl, _, HT.out⟩) : P := h
theorem tl215 (P : Prop) (h : P := by
 clear EF
 obtain ⟨bf, gb, ge, N, capb, n, pA, pc, pk⟩ := L
 simp only [] at hq
 subst hq
 have c0 := h.f.cellD 0 _ rfl
 have c1 := h.f.cellD 1 _ rfl
 have c2 := h.f.cellD 2 _ rfl
 have c3 := h.f.cellD 3 _ rfl
 have c4 := h.f.cellD 4 _ rfl
 have c5 := h.f.cellD 5 _ rfl
 have hcap := h.bs.le
 have hcmx := h.bs.max
 have hN := h.nN
 have hn0 := h.n0
 have hn9 := h.n9
 have H := Lib.hid h
 simp only [] at c0 c1 c2 c3 c4 c5 hcap hcmx hN hn0 hn9
 have hNb : N ≤ 262144 := by omega
 have hN1 : 1024 ≤ N := by omega
 have HN := Lib.hid hN
 clear h hN
 exact tl216 _) : P := h
set_option maxRecDepth 100000 in
set_option maxHeartbeats 800000 in
theorem rferase_any (B : Nat) (L : RL) (s : FS) (q : Nat) (k : Int) (w : World) (h : RAt w B L s) (hq : L.bf = q) (hst : 0 ≤ s.steps ∧ s.steps ≤ 1000000000000) (her : ∀ i, 0 ≤ s.er.getD i 0 ∧ s.er.getD i 0 ≤ 1000000000000) :
    Calls Tryz.prog 126 #[.pointer (some ⟨q, 0, none⟩), .int .i64 k] w (RProgTold w B L (s.eraseF k)) := by
 have hel := h.el
 have HT := Lib.hid (RTurn.self h)
 have EF : Hid (s.eraseF k = if s.dark = true then (s, 5) else if k < 0 ∨ (L.n : Int) ≤ k then (s, 2)
   else if s.left = 0 then ({ (s.erased k.toNat).stepped with b := splice s.b (1024 * k.toNat) (halfN ((s.b.drop (1024 * k.toNat)).take 1024) s.pick) }, 5)
   else ({ (s.erased k.toNat).stepped with b := splice s.b (1024 * k.toNat) (List.replicate 1024 255) }, 0)) := by
  show s.eraseF k = _
  unfold FS.eraseF; rw [hel]
 cases hd : s.dark with
 | true =>
  rw [hd] at EF
  have EG : Hid (s.eraseF k = (s, 5)) := by show _ = _; rw [EF.out, if_pos rfl]
  exact tl215 _
 | false =>
 rw [hd] at EF
 by_cases q1 : k < 0
 ·have d1 : decide (k < 0) = true := decide_eq_true q1
  have EG : Hid (s.eraseF k = (s, 2)) := by show _ = _; rw [EF.out, if_neg (by decide), if_pos (.inl q1)]
  exact tl215 _
 have d1 : decide (k < 0) = false := decide_eq_false q1
 by_cases q2 : (L.n : Int) ≤ k
 ·have d2 : decide ((L.n : Int) ≤ k) = true := decide_eq_true q2
  have EG : Hid (s.eraseF k = (s, 2)) := by show _ = _; rw [EF.out, if_neg (by decide), if_pos (.inr q2)]
  clear EF
  obtain ⟨bf, gb, ge, N, capb, n, pA, pc, pk⟩ := L
  simp only [] at hq
  subst hq
  have c0 := h.f.cellD 0 _ rfl
  have c1 := h.f.cellD 1 _ rfl
  have c2 := h.f.cellD 2 _ rfl
  have c3 := h.f.cellD 3 _ rfl
  have c4 := h.f.cellD 4 _ rfl
  have c5 := h.f.cellD 5 _ rfl
  have hcap := h.bs.le
  have hcmx := h.bs.max
  have hN := h.nN
  have hn0 := h.n0
  have hn9 := h.n9
  have H := Lib.hid h
  simp only [] at c0 c1 c2 c3 c4 c5 hcap hcmx hN hn0 hn9
  have hNb : N ≤ 262144 := by omega
  have hN1 : 1024 ≤ N := by omega
  have HN := Lib.hid hN
  clear h hN
  simp only [] at d2 q2
  exact tl216 _
 obtain ⟨i, rfl⟩ : ∃ i : Nat, k = i := ⟨k.toNat, by omega⟩
 have d2 : decide ((L.n : Int) ≤ i) = false := decide_eq_false q2
 have d3 : decide (L.n ≤ i) = false := decide_eq_false (by omega)
 have hi : i < L.n := by omega
 have hc := h.e.cellD i _ (map_getD 0 (by rw [hel]; exact hi))
 have hfz := h.e.frozen i
 have hs8 := her i
 obtain ⟨a, ha⟩ : ∃ a, 1024 * i = a := ⟨_, rfl⟩
 have haN : a + 1024 ≤ L.N := by have := h.nN; omega
 simp only [Int.toNat_natCast] at EF
 rw [ha, if_neg (by decide), if_neg (by omega)] at EF
 obtain ⟨st1, st2⟩ := hst
 have ES := Lib.hid (fun w' (hk : Keeps (fun k => k = L.ge) w w') (he : Blk w' L.ge ((s.er.map (.int .i64)).set i (.int .i64 (s.er.getD i 0 + 1))) 3) => show RAt w' B L (s.erased i) from h.sect hk (by rw [← List.map_set] at he; exact he) (by rw [List.length_set]))
 have BRK := Lib.hid (fun w' (hh : RAt w' B L (s.erased i)) => rfstep_any B L (s.erased i) L.bf w' hh rfl hd ⟨st1, st2⟩)
 have EB : Hid ((s.erased i).stepped.b = s.b) := by show (s.erased i).stepped.b = s.b; rw [FS.stepped_b]; rfl
 have BE := Lib.hid h.e
 have LFT : Hid ((s.erased i).left = s.left) := rfl
 have PCK : Hid ((s.erased i).pick = s.pick) := rfl
 generalize s.er.getD i 0 = x at *
 generalize s.erased i = s1 at *
 clear HT hel her q1 q2
 obtain ⟨bf, gb, ge, N, capb, n, pA, pc, pk⟩ := L
 simp only [] at hq
 subst hq
 have c0 := h.f.cellD 0 _ rfl
 have c1 := h.f.cellD 1 _ rfl
 have c2 := h.f.cellD 2 _ rfl
 have c3 := h.f.cellD 3 _ rfl
 have c4 := h.f.cellD 4 _ rfl
 have c5 := h.f.cellD 5 _ rfl
 have hcap := h.bs.le
 have hcmx := h.bs.max
 have hN := h.nN
 have hn0 := h.n0
 have hn9 := h.n9
 have H := Lib.hid h
 simp only [] at c0 c1 c2 c3 c4 c5 hcap hcmx hN hn0 hn9
 have hNb : N ≤ 262144 := by omega
 have hN1 : 1024 ≤ N := by omega
 have HN := Lib.hid hN
 clear h hN
 simp only [] at d2 d3 hi hc hfz haN
 rw [hd] at c5
 clear hd
 simp only [] at BRK ES BE
 have f1 : (1024 * (i : Int)) = a := by omega
 have f2 : ((i : Int) * 1024) = a := by omega
 have f4 : ¬ capb = a := by omega
 have f5 : a + 1024 - a = 1024 := by omega
 have f6 : i * 1024 = a := by omega
 by_cases h0 : s.left = 0
 ·have EL : Hid (decide (s1.left = 0) = true) := by show decide (s1.left = 0) = true; rw [LFT.out]; exact decide_eq_true h0
  have ER : Hid (s.eraseF i = ({ s1.stepped with b := splice s.b a (halfN ((s.b.drop a).take 1024) s.pick) }, 5)) := by show _ = _; rw [EF.out, if_pos h0]
  have hpk := H.out.armed (by omega)
  simp only [] at hpk
  rw [← hpk] at ER
  have SC := Lib.hid (stepped_cut (s := s1) (LFT.out.trans h0))
  clear EF h0 hpk
  go_enter Tryz.func126, Tryz.ntmps126
  go_wp2_with fail
  have KE : Hid (Keeps (fun k => k = ge) w (w.setCell ⟨ge, i, none⟩ (.int .i64 (x + 1)))) := (Keeps.self ge w).put i _
  have F1 := Lib.hid (ES.out _ KE.out (BE.out.set i _))
  refine (BRK.out _ F1.out).mono ?_
  rintro e w2 ⟨rfl, kb, hf2⟩
  rw [EL.out]
  have K2 : Hid (Keeps (fun k => k = bf ∨ k = gb ∨ k = ge) w w2) := KE.out.trans kb (fun _ h => .inr (.inr h)) (fun _ _ h => .inl h)
  have y0 := hf2.f.cellD 0 _ rfl
  have y4 := hf2.f.cellD 4 _ rfl
  simp only [] at y0 y4
  have F2 := Lib.hid hf2
  clear kb hf2 KE F1 BRK ES BE
  go_wp2
  obtain ⟨mS, mh⟩ : ∃ S : World → Prop, ∀ w', S w' ↔ (w'.cell? ⟨bf, 0, none⟩ = some (.slice (some ⟨gb, 0, none⟩) N capb) ∧ w'.cell? ⟨bf, 4, none⟩ = some (.slice pA pk.length pc)) := ⟨_, fun _ => Iff.rfl⟩
  have mk0 : ∀ x : Memb mS, x.at_.cell? ⟨bf, 0, none⟩ = some (.slice (some ⟨gb, 0, none⟩) N capb) := fun x => ((mh _).1 x.is).1
  have mk1 : ∀ x : Memb mS, x.at_.cell? ⟨bf, 4, none⟩ = some (.slice pA pk.length pc) := fun x => ((mh _).1 x.is).2
  have mn : Nonempty (Memb mS) := ⟨⟨(w2).drew, (mh _).2 ⟨y0, y4⟩⟩⟩
  have mH := Lib.hid mh
  clear mh
  refine wp_region_mix [14, 15] (InS mS) (by kernel_rfl) (by kernel_rfl) (InS.mk ((mH.out _).2 ⟨y0, y4⟩)) ?_
  refine wpMix_seg 14 (by kernel_rfl) (by decide) ?_
  simp only [tds]
  repeat (go_big_quiet_step (fail))
  refine wpQuiet_nil ?_
  refine wpMix_eff (by kernel_rfl) ?_
  go_wp2_with fail
  have C2 : Hid (Bs w2.drew (some ⟨gb, a, none⟩) 1024 (capb - a) ((s.b.drop a).take 1024)) := by have := F2.out.drew.cut (i := a) (j := 1024) haN; rwa [EB.out] at this
  have P2 : Hid (Bs w2.drew pA pk.length pc pk) := ownBs (show Own w2.drew B (.slice pA pk.length pc) pk from F2.out.drew.p)
  refine (rhalf_any _ _ _ _ _ _ _ _ _ C2.out P2.out (by omega)).mono ?_
  rintro e w3 ⟨v3, rfl, o3, k3⟩
  obtain ⟨A3, c3, rfl, bs3, -⟩ := o3.shape
  have TL := halfN_len ((s.b.drop a).take 1024) pk
  rw [C2.out.len] at TL
  rw [TL] at bs3 ⊢
  have F3 := Lib.hid (F2.out.drew.later k3)
  have K3 : Hid (Keeps (fun k => k = bf ∨ k = gb ∨ k = ge) w w3) := K2.out.drew.trans k3 (fun _ h => h) (fun _ _ h => h.elim)
  have SE := Lib.hid (rfset_any B _ s1.stepped bf a A3 1024 c3 _ w3 F3.out rfl bs3 haN (fun b off _ e e2 => by
  subst e
  have := F2.out.drew.lt b (by subst e2; exact .inl (.inr (.inl rfl)))
  exact o3.notBelow this rfl))
  clear o3 k3 bs3 TL C2 P2
  go_wp2
  refine MixK.on (InS.mk ((mH.out _).2 (⟨F3.out.f.cellD 0 _ rfl, F3.out.f.cellD 4 _ rfl⟩))) ?_
  refine wpMix_eff (by kernel_rfl) ?_
  go_wp2_with fail
  refine SE.out.mono ?_
  rintro e w4 ⟨rfl, h4, k4⟩
  rw [EB.out] at h4
  have H4 := Lib.hid h4
  have K4 : Hid (Keeps (fun k => k = bf ∨ k = gb ∨ k = ge) w w4) := K3.out.trans k4 (fun _ h => h) (fun _ _ h => .inr (.inl h))
  clear h4 k4 SE
  go_wp2
  refine MixK.last (by kernel_rfl) ?_
  refine wpMix_nil ?_
  clear mk0 mk1 mn mH
  clear y0 y4
  have z4 := H4.out.f.frozen 4
  have y4 := H4.out.f.cellD 4 _ rfl
  simp only [] at z4 y4
  go_wp2
  go_ret
  have T5 := H4.out.unpick SC.out.1 rfl
  refine ⟨by rw [ER.out]; rfl, ⟨bf, gb, ge, N, capb, n, none, 0, []⟩, ?_, ?_, rfl, rfl, fun k h => ?_⟩
  ·rw [ER.out]
   exact T5.at_
  ·exact tl214 _
  ·rcases h with h | h
   ·exact .inl (.inl h)
   ·cases h
 ·have EL : Hid (decide (s1.left = 0) = false) := by show decide (s1.left = 0) = false; rw [LFT.out]; exact decide_eq_false h0
  have ER : Hid (s.eraseF i = ({ s1.stepped with b := splice s.b a (List.replicate 1024 255) }, 0)) := by show _ = _; rw [EF.out, if_neg h0]
  have BL : Hid (∀ w, Calls Tryz.prog 28 #[.int .i64 1024] w (Cloned w (List.replicate 1024 255))) := fun w => rblank_any 1024 w
  have BKL : Hid ((List.replicate 1024 (255 : Int)).length = 1024) := List.length_replicate
  generalize List.replicate 1024 (255 : Int) = bk at *
  clear EF h0
  go_enter Tryz.func126, Tryz.ntmps126
  go_wp2_with fail
  have KE : Hid (Keeps (fun k => k = ge) w (w.setCell ⟨ge, i, none⟩ (.int .i64 (x + 1)))) := (Keeps.self ge w).put i _
  have F1 := Lib.hid (ES.out _ KE.out (BE.out.set i _))
  refine (BRK.out _ F1.out).mono ?_
  rintro e w2 ⟨rfl, kb, hf2⟩
  rw [EL.out]
  have K2 : Hid (Keeps (fun k => k = bf ∨ k = gb ∨ k = ge) w w2) := KE.out.trans kb (fun _ h => .inr (.inr h)) (fun _ _ h => .inl h)
  have F2 := Lib.hid hf2
  clear kb hf2 KE F1 BRK ES BE
  go_wp2_with fail
  refine (BL.out _).mono ?_
  rintro e w3 ⟨v3, rfl, o3, k3⟩
  obtain ⟨A3, c3, rfl, bs3, -⟩ := o3.shape
  rw [BKL.out] at bs3 ⊢
  have F3 := Lib.hid (F2.out.later k3)
  have K3 : Hid (Keeps (fun k => k = bf ∨ k = gb ∨ k = ge) w w3) := K2.out.trans k3 (fun _ h => h) (fun _ _ h => h.elim)
  have SE := Lib.hid (rfset_any B _ s1.stepped bf a A3 1024 c3 _ w3 F3.out rfl bs3 haN (fun b off _ e e2 => by
   subst e
   have := F2.out.lt b (by subst e2; exact .inl (.inr (.inl rfl)))
   exact o3.notBelow this rfl))
  clear o3 k3 bs3
  go_wp2_with fail
  refine SE.out.mono ?_
  rintro e w4 ⟨rfl, h4, k4⟩
  rw [EB.out] at h4
  have H4 := Lib.hid h4
  have K4 : Hid (Keeps (fun k => k = bf ∨ k = gb ∨ k = ge) w w4) := K3.out.trans k4 (fun _ h => h) (fun _ _ h => .inr (.inl h))
  clear h4 k4 SE
  go_wp2
  go_ret
  refine ⟨by rw [ER.out]; rfl, ⟨bf, gb, ge, N, capb, n, pA, pc, pk⟩, ?_, K4.out.mono (fun _ _ h => .inl h), rfl, rfl, fun _ h => .inl h⟩
  rw [ER.out]
  exact H4.out
def RMade (w : World) (n : Int) (e : Ending) (w' : World) : Prop := ∃ L, e = .returned (.pointer (some ⟨L.bf, 0, none⟩)) ∧ RAt w' w.heap.size L (newF n) ∧ L.n = (max 1 (min n 256)).toNat ∧ Keeps None w w'
set_option maxRecDepth 100000 in
set_option maxHeartbeats 800000 in
theorem rfnew_any (k : Int) (w : World) : Calls Tryz.prog 6 #[.int .i64 k] w (RMade w k) := by
 obtain ⟨n, hn⟩ : ∃ n : Nat, (max 1 (min k 256)) = n := ⟨(max 1 (min k 256)).toNat, by omega⟩
 have hn1 : 1 ≤ n := by omega
 have hn2 : n ≤ 256 := by omega
 have HN : Hid (newF k = { b := List.replicate (1024 * n) 255, er := List.replicate n 0, steps := 0, left := -1, pick := [], dark := false }) := by
  show newF k = _
  have e : (max 1 (min k 256)).toNat = n := by omega
  unfold newF; rw [e]
 have HM : Hid (n = (max 1 (min k 256)).toNat) := by show _ = _; omega
 have CP := Lib.hid (fun w => cap_any k 1 256 (by decide) w)
 rw [hn] at CP
 clear hn
 have hmk := fun w => run_make_blk (P := Tryz.prog) 63 3 (.int .i64 0) 8 Tryz.underlying63 Tryz.infoI3 rfl .i64 .i64 (n : Int) (n : Int) n rfl rfl (by omega) (by omega) w
 have BL : Hid (∀ w, Calls Tryz.prog 28 #[.int .i64 1024] w (Cloned w (List.replicate 1024 255))) := fun w => rblank_any 1024 w
 go_enter Tryz.func6, Tryz.ntmps6
 go_wp2_with fail
 refine (CP.out _).mono ?_
 rintro e w' ⟨rfl, rfl⟩
 go_wp2
 have e0 : (w.alloc (.cells (List.replicate n (Value.int .i64 0)).toArray 3)).heap.size = w.heap.size + 1 := by simp
 have BE0 : Hid (Blk ((w.alloc (.cells (List.replicate n (Value.int .i64 0)).toArray 3)).alloc (.cells #[.slice none 0 0, .slice (some ⟨w.heap.size, 0, none⟩) n n, .int .i64 0, .int .i64 (-1), .slice none 0 0, .bool false] 65)) w.heap.size (List.replicate n (.int .i64 0)) 3) := (Blk.new w (List.replicate n (.int .i64 0)) 3).alloc _
 have BF0 : Hid (Blk ((w.alloc (.cells (List.replicate n (Value.int .i64 0)).toArray 3)).alloc (.cells #[.slice none 0 0, .slice (some ⟨w.heap.size, 0, none⟩) n n, .int .i64 0, .int .i64 (-1), .slice none 0 0, .bool false] 65)) (w.heap.size + 1) [.slice none 0 0, .slice (some ⟨w.heap.size, 0, none⟩) n n, .int .i64 0, .int .i64 (-1), .slice none 0 0, .bool false] 65) := by
  have := Blk.new (w.alloc (.cells (List.replicate n (Value.int .i64 0)).toArray 3)) [.slice none 0 0, .slice (some ⟨w.heap.size, 0, none⟩) n n, .int .i64 0, .int .i64 (-1), .slice none 0 0, .bool false] 65
  rw [e0] at this
  exact this
 have K0 : Hid (Keeps None w ((w.alloc (.cells (List.replicate n (Value.int .i64 0)).toArray 3)).alloc (.cells #[.slice none 0 0, .slice (some ⟨w.heap.size, 0, none⟩) n n, .int .i64 0, .int .i64 (-1), .slice none 0 0, .bool false] 65))) := ((Keeps.refl None w).alloc _).alloc _
 clear e0 hmk
 go_loopw [5] (fun iv wr => ∃ (j : Nat) (A : Option Addr) (c : Nat), j ≤ n ∧ iv = .int .i64 j ∧ Blk wr (w.heap.size + 1) [.slice A (1024 * j) c, .slice (some ⟨w.heap.size, 0, none⟩) n n, .int .i64 0, .int .i64 (-1), .slice none 0 0, .bool false] 65 ∧ Blk wr w.heap.size (List.replicate n (.int .i64 0)) 3 ∧ Own wr (w.heap.size + 2) (.slice A (1024 * j) c) (List.replicate (1024 * j) 255) ∧ Keeps None w wr) (fun iv _ => n - (intOf iv).toNat)
 case atStart =>
  exact tl80 _
 case round =>
  obtain ⟨j, A, c, hj, rfl, hbf, hbe, hbo, hkp⟩ := hrel
  have HBF := Lib.hid hbf
  have HBE := Lib.hid hbe
  have HBO := Lib.hid hbo
  have HKP := Lib.hid hkp
  clear hbf hbe hbo hkp BE0 BF0 K0
  obtain ⟨wv, rfl⟩ : ∃ x, x = wr := ⟨_, rfl⟩
  by_cases hlt : j < n
  ·have x1 : decide (j < n) = true := decide_eq_true hlt
   have x2 : decide ((j : Int) < n) = true := decide_eq_true (by omega)
   exact tl81 _
  ·obtain rfl : j = n := by omega
   have x2 : decide ((j : Int) < j) = false := decide_eq_false (by omega)
   obtain ⟨gb, rfl, hg1, -, -, hle, hmx, -, -⟩ := HBO.out.at_ (k := 0) (by omega)
   go_wp2
   go_ret
   refine ⟨⟨w.heap.size + 1, gb, w.heap.size, 1024 * j, c, j, none, 0, []⟩, rfl, ?_, HM.out, HKP.out⟩
   rw [HN.out]
   exact ⟨HBF.out, HBO.out.lower (by omega), by simpa using HBE.out, Own.nil _ _, by simp, fun h => absurd h (show ¬ (0 : Int) ≤ -1 by decide), (show (-1 : Int) ≤ -1 by decide), (show (-1 : Int) ≤ 9223372036854775807 by decide), rfl, hn1, hn2, Nat.le_succ _, Nat.le_refl _, by show w.heap.size + 1 ≠ gb; omega, by show w.heap.size + 1 ≠ w.heap.size; omega, by show gb ≠ w.heap.size; omega, fun g hg => (by cases hg), (by show ([] : List Int).length ≤ _; decide)⟩
open Go.RowKit
open Go.RowKit
def Far (st l k : Int) : Prop := l = k ∨ (4611686018427387904 - st ≤ l ∧ 4611686018427387904 - st ≤ k)
def Sim (s r : FS) : Prop := ∃ l, r = { s with left := l } ∧ Far s.steps l s.left
theorem far_zero {st l k : Int} (h : Far st l k) (hs : st ≤ 1000000000000) : (l = 0 ↔ k = 0) ∧ (l < 0 ↔ k < 0) := by
 unfold Far at h
 omega
section
variable {s r : FS}
theorem Sim.b (h : Sim s r) : r.b = s.b := by obtain ⟨l, rfl, _⟩ := h; rfl
theorem Sim.er (h : Sim s r) : r.er = s.er := by obtain ⟨l, rfl, _⟩ := h; rfl
theorem Sim.steps (h : Sim s r) : r.steps = s.steps := by obtain ⟨l, rfl, _⟩ := h; rfl
theorem Sim.dark (h : Sim s r) : r.dark = s.dark := by obtain ⟨l, rfl, _⟩ := h; rfl
theorem Sim.self (s : FS) : Sim s s := ⟨s.left, rfl, .inl rfl⟩
theorem sim_stepped {l : Int} (h : Far s.steps l s.left) (hs : s.steps ≤ 1000000000000) : ∃ l', ({ s with left := l } : FS).stepped = { s.stepped with left := l' } ∧ Far s.stepped.steps l' s.stepped.left := by
 obtain ⟨z1, z2⟩ := far_zero h hs
 unfold FS.stepped
 by_cases h1 : s.left < 0
 ·have h1' := z2.2 h1
  rw [if_pos h1, if_pos (show ({ s with left := l } : FS).left < 0 from h1')]
  exact ⟨l, rfl, by unfold Far at h ⊢; show _ ∨ _; dsimp only; omega⟩
 ·have h1' : ¬ l < 0 := fun e => h1 (z2.1 e)
  by_cases h2 : s.left = 0
  ·have h2' := z1.2 h2
   rw [if_neg h1, if_pos h2, if_neg (show ¬ ({ s with left := l } : FS).left < 0 from h1'), if_pos (show ({ s with left := l } : FS).left = 0 from h2')]
   exact ⟨-1, rfl, .inl rfl⟩
  ·have h2' : ¬ l = 0 := fun e => h2 (z1.1 e)
   rw [if_neg h1, if_neg h2, if_neg (show ¬ ({ s with left := l } : FS).left < 0 from h1'), if_neg (show ¬ ({ s with left := l } : FS).left = 0 from h2')]
   exact ⟨l - 1, rfl, by unfold Far at h ⊢; show _ ∨ _; dsimp only; omega⟩
theorem sim_progW : ∀ (k : Nat) (s : FS) (l : Int) (p : Nat) (ws : List Int), Far s.steps l s.left → s.steps + k ≤ 1000000000000 →
    ∃ l', progW k { s with left := l } p ws = ({ (progW k s p ws).1 with left := l' }, (progW k s p ws).2) ∧ Far (progW k s p ws).1.steps l' (progW k s p ws).1.left
  | 0, s, l, p, ws, h, _ => ⟨l, rfl, h⟩
  | k + 1, s, l, p, ws, h, hs => by
    obtain ⟨z1, _⟩ := far_zero h (by omega)
    obtain ⟨l', e1, f1⟩ := sim_stepped h (by omega)
    unfold progW
    by_cases h0 : s.left = 0
    · rw [if_pos h0, if_pos (show ({ s with left := l } : FS).left = 0 from z1.2 h0), e1]
      exact ⟨l', rfl, f1⟩
    · rw [if_neg h0, if_neg (show ¬ ({ s with left := l } : FS).left = 0 from fun e => h0 (z1.1 e)), e1]
      exact sim_progW k { s.stepped with b := splice s.b p (ws.take 8) } l' (p + 8) (ws.drop 8) f1 (by show s.stepped.steps + _ ≤ _; rw [FS.stepped_steps]; omega)
theorem Sim.prog (h : Sim s r) (a : Int) (zs : List Int) (hs : s.steps + zs.length ≤ 1000000000000) : Sim (s.progF a zs).1 (r.progF a zs).1 ∧ (r.progF a zs).2 = (s.progF a zs).2 := by
 have h' := h
 obtain ⟨l, rfl, hf⟩ := h
 unfold FS.progF
 dsimp only
 split
 ·exact ⟨h', rfl⟩
 ·split
  ·exact ⟨h', rfl⟩
  ·split
   ·exact ⟨h', rfl⟩
   ·split
    ·exact ⟨h', rfl⟩
    ·obtain ⟨l', e, f⟩ := sim_progW (zs.length / 8) s l a.toNat zs hf (by omega)
     rw [e]
     exact ⟨⟨l', rfl, f⟩, rfl⟩
theorem Sim.erase (h : Sim s r) (k : Int) (hs : s.steps ≤ 1000000000000) : Sim (s.eraseF k).1 (r.eraseF k).1 ∧ (r.eraseF k).2 = (s.eraseF k).2 := by
 have h' := h
 obtain ⟨l, rfl, hf⟩ := h
 obtain ⟨z1, _⟩ := far_zero hf hs
 unfold FS.eraseF
 dsimp only
 split
 ·exact ⟨h', rfl⟩
 ·split
  ·exact ⟨h', rfl⟩
  ·have hfe : Far (s.erased k.toNat).steps l (s.erased k.toNat).left := hf
   obtain ⟨l', e1, f1⟩ := sim_stepped hfe hs
   have e2 : (FS.erased { s with left := l } k.toNat) = { s.erased k.toNat with left := l } := rfl
   by_cases h0 : s.left = 0
   ·rw [if_pos h0, if_pos (z1.2 h0), e2, e1]
    exact ⟨⟨l', rfl, f1⟩, rfl⟩
   ·rw [if_neg h0, if_neg (fun e => h0 (z1.1 e)), e2, e1]
    exact ⟨⟨l', rfl, f1⟩, rfl⟩
theorem Sim.arm (h : Sim s r) (after : Int) (ps : List Int) (h0 : 0 ≤ s.steps) : Sim (s.armF after ps) (r.armR after ps) := by
 obtain ⟨l, rfl, hf⟩ := h
 unfold FS.armF FS.armR
 split
 ·exact ⟨-1, rfl, .inl rfl⟩
 ·refine ⟨min after 4611686018427387904, rfl, ?_⟩
  show min after 4611686018427387904 = after ∨ (4611686018427387904 - s.steps ≤ min after 4611686018427387904 ∧ 4611686018427387904 - s.steps ≤ after)
  omega
end
open Go.RowKit
structure KS where
  at_ : Nat
  n : Nat
  word : List Int
  ready : Nat
  err : Int
section
variable {q f c : Nat} {k : KS} (h : k.word.length = 8)
include h
end
section
variable {w w' : World} {B : Nat} {L L' : FL} {s s' : FS} {cb q f c : Nat} {k k' : KS}
end
open Go.RowKit
structure FR (W w : World) (B q : Nat) (L : FL) (s : FS) (Br qr : Nat) (Lr : RL) (r : FS) : Prop where
  f : LF W w B q L s
  g : RAt w Br Lr r
  gq : Lr.bf = qr
  gB : W.heap.size ≤ Br
  dj : ∀ k, L.O k → ¬ Lr.O k
section
variable {W w w' : World} {B q : Nat} {L L' : FL} {s s' : FS} {Br qr : Nat} {Lr Lr' : RL} {r r' : FS}
end
open Go.RowKit
theorem RAt.dk {w : World} {B : Nat} {L : RL} {s : FS} {q : Nat} (h : RAt w B L s) (hq : L.bf = q) : w.cell? ⟨q, 5, none⟩ = some (.bool s.dark) := by rw [← hq]; exact h.f.cellD 5 _ rfl
set_option maxRecDepth 100000 in
theorem rgsize_any (p : Option Addr) (first : Int) (count : Nat) (hc : count ≤ 1000000) (w : World) : Calls Tryz.prog 45 #[.agg #[.pointer p, .int .i64 first, .int .i64 count]] w (Pure (.int .i64 (1024 * count : Nat)) w) := by
 have k0 : Keeps None w (w.alloc (.cells #[.pointer p, .int .i64 first, .int .i64 count] 29)) := (Keeps.refl None w).alloc _
 have hm : ((count : Int) * 1024) = ((1024 * count : Nat) : Int) := by omega
 go_enter Tryz.func45, Tryz.ntmps45
 go_wp2
 go_ret
 exact ⟨ret_int (by omega), k0⟩
set_option maxRecDepth 100000 in
theorem rgread_any (B : Nat) (L : RL) (s : FS) (q first count : Nat) (a m : Int) (w : World) (h : RAt w B L s) (hq : L.bf = q) (hf : first + count ≤ 256) : Calls Tryz.prog 44 #[.agg #[.pointer (some ⟨q, 0, none⟩), .int .i64 first, .int .i64 count], .int .i64 a, .int .i64 m] w (ReadTold w (s.gread first count a m)) := by
 have GR : Hid (s.gread first count a m = if s.dark = true then ([], 5) else if withinB a m (1024 * count : Nat) = true then s.readF (1024 * first + a) m else ([], 2)) := rfl
 have SZ := Lib.hid (fun w => rgsize_any (some ⟨q, 0, none⟩) first count (by omega) w)
 obtain ⟨sz, hsz⟩ : ∃ sz : Nat, 1024 * count = sz := ⟨_, rfl⟩
 rw [hsz] at SZ GR
 have WI := Lib.hid (fun w => rfwithin_any a m sz (by omega) w)
 have RD := Lib.hid (fun w' a (hh : RAt w' B L s) => rfread_any B L s q a m w' hh hq)
 have k0 : Keeps None w (w.alloc (.cells #[.pointer (some ⟨q, 0, none⟩), .int .i64 first, .int .i64 count] 29)) := (Keeps.refl None w).alloc _
 have bx : Blk (w.alloc (.cells #[.pointer (some ⟨q, 0, none⟩), .int .i64 first, .int .i64 count] 29)) w.heap.size [.pointer (some ⟨q, 0, none⟩), .int .i64 first, .int .i64 count] 29 := Blk.new w [.pointer (some ⟨q, 0, none⟩), .int .i64 first, .int .i64 count] 29
 have K0 := Lib.hid k0
 have BX := Lib.hid bx
 have H0 := Lib.hid (h.later K0.out)
 have dk := H0.out.dk hq
 have y0 := bx.cellD 0 _ rfl
 have y1 := bx.cellD 1 _ rfl
 have y2 := bx.cellD 2 _ rfl
 clear k0 bx
 clear h
 cases hd : s.dark with
 | true =>
  rw [hd] at dk
  have GG : Hid (s.gread first count a m = ([], 5)) := by show _ = _; rw [GR.out, if_pos hd]
  clear hd GR hsz
  go_enter Tryz.func44, Tryz.ntmps44
  go_wp2
  go_ret2
  rw [GG.out]
  exact ⟨_, rfl, Own.nil _ _, K0.out⟩
 | false =>
  rw [hd] at dk
  cases hw : withinB a m sz with
  | false =>
   have GG : Hid (s.gread first count a m = ([], 2)) := by show _ = _; rw [GR.out, if_neg (by rw [hd]; decide), if_neg (by rw [hw]; decide)]
   rw [hw] at WI
   clear hd GR hsz hw
   go_enter Tryz.func44, Tryz.ntmps44
   go_wp2_with fail
   refine (SZ.out _).mono ?_
   rintro e w2 ⟨rfl, k2⟩
   have K2 := Lib.hid (K0.out.trans k2 (T := None) (fun _ h => h) (fun _ _ h => h))
   clear k2
   go_wp2_with fail
   refine (WI.out _).mono ?_
   rintro e w' ⟨rfl, rfl⟩
   go_wp2
   go_ret2
   rw [GG.out]
   exact ⟨_, rfl, Own.nil _ _, K2.out⟩
  | true =>
   have hg : s.gread first count a m = s.readF (1024 * first + a) m := by rw [GR.out, if_neg (by rw [hd]; decide), if_pos hw]
   rw [hw] at WI
   obtain ⟨i, j, rfl, rfl, hij⟩ := within_nat hw
   rw [hg]
   obtain ⟨bs, hbs⟩ : ∃ b : Nat, 1024 * first = b := ⟨_, rfl⟩
   obtain ⟨p, hp⟩ : ∃ p : Nat, bs + i = p := ⟨_, rfl⟩
   have e1 : (1024 * (first : Int) + i) = (p : Int) := by omega
   rw [e1]
   have e2 : ((first : Int) * 1024) = bs := by omega
   have w1 : IntKind.i64.wrap ((bs : Int) + i) = p := by rw [show (bs : Int) + i = (p : Int) by omega]; exact wrap_nat _ (by omega)
   have RDp := Lib.hid (fun w' (hh : RAt w' B L s) => RD.out w' p hh)
   have hf9 : bs ≤ 262144 := by omega
   generalize s.readF p j = r at *
   clear GR hg hw hd RD hbs hp e1 hsz
   go_enter Tryz.func44, Tryz.ntmps44
   go_wp2_with fail
   refine (SZ.out _).mono ?_
   rintro e w2 ⟨rfl, k2⟩
   have K2 := Lib.hid (K0.out.trans k2 (T := None) (fun _ h => h) (fun _ _ h => h))
   have H2 := Lib.hid (H0.out.later k2)
   have B2 := Lib.hid (k2.blk BX.out (fun h => h))
   clear k2 y0 y1 y2 dk
   have y0 := B2.out.cellD 0 _ rfl
   have y1 := B2.out.cellD 1 _ rfl
   have y2 := B2.out.cellD 2 _ rfl
   go_wp2_with fail
   refine (WI.out _).mono ?_
   rintro e w' ⟨rfl, rfl⟩
   go_wp2_with fail
   refine (RDp.out _ H2.out).mono ?_
   rintro e w3 ⟨v3, rfl, o3, k3⟩
   have O3 := Lib.hid o3
   have K3 := Lib.hid (K2.out.trans k3 (T := None) (fun _ h => h) (fun _ _ h => h))
   have S3 := Lib.hid K2.out.size
   clear o3 k3
   go_wp2
   go_ret2
   exact ⟨v3, rfl, O3.out.lower S3.out, K3.out⟩
set_option maxRecDepth 100000 in
theorem rgprogram_any (B : Nat) (L : RL) (s : FS) (q first count : Nat) (a : Int) (A : Option Addr) (m c : Nat) (zs : List Int) (w : World) (h : RAt w B L s) (hq : L.bf = q) (hf : first + count ≤ 256) (hb : Rb w L A m c zs) (hst : 0 ≤ s.steps ∧ s.steps + m ≤ 1000000000000) :
    Calls Tryz.prog 88 #[.agg #[.pointer (some ⟨q, 0, none⟩), .int .i64 first, .int .i64 count], .int .i64 a, .slice A m c] w (RProgTold w B L (s.gprog first count a zs)) := by
 have hml := hb.bs.len
 have hle := hb.bs.le
 have hmx := hb.bs.max
 have GR : Hid (s.gprog first count a zs = if s.dark = true then (s, 5) else if withinB a m (1024 * count : Nat) = true then s.progF (1024 * first + a) zs else (s, 2)) := by
  show s.gprog first count a zs = _
  unfold FS.gprog; rw [hml]
 have SZ := Lib.hid (fun w => rgsize_any (some ⟨q, 0, none⟩) first count (by omega) w)
 obtain ⟨sz, hsz⟩ : ∃ sz : Nat, 1024 * count = sz := ⟨_, rfl⟩
 rw [hsz] at SZ GR
 have WI := Lib.hid (fun w => rfwithin_any a m sz (by omega) w)
 have PR := Lib.hid (fun w' a (hh : RAt w' B L s) (hk : Keeps None w w') => rfprogram_any B L s q a A m c zs w' hh hq (hb.later hk) hst)
 have HW := Lib.hid h
 have k0 : Keeps None w (w.alloc (.cells #[.pointer (some ⟨q, 0, none⟩), .int .i64 first, .int .i64 count] 29)) := (Keeps.refl None w).alloc _
 have bx : Blk (w.alloc (.cells #[.pointer (some ⟨q, 0, none⟩), .int .i64 first, .int .i64 count] 29)) w.heap.size [.pointer (some ⟨q, 0, none⟩), .int .i64 first, .int .i64 count] 29 := Blk.new w [.pointer (some ⟨q, 0, none⟩), .int .i64 first, .int .i64 count] 29
 have K0 := Lib.hid k0
 have BX := Lib.hid bx
 have H0 := Lib.hid (h.later K0.out)
 have dk := H0.out.dk hq
 have y0 := bx.cellD 0 _ rfl
 have y1 := bx.cellD 1 _ rfl
 have y2 := bx.cellD 2 _ rfl
 clear k0 bx
 clear h hb hml
 cases hd : s.dark with
 | true =>
  rw [hd] at dk
  have GG : Hid (s.gprog first count a zs = (s, 5)) := by show _ = _; rw [GR.out, if_pos hd]
  clear hd GR hsz
  go_enter Tryz.func88, Tryz.ntmps88
  go_wp2
  go_ret
  rw [GG.out]
  exact ⟨rfl, _, RTurn.still HW.out K0.out⟩
 | false =>
  rw [hd] at dk
  cases hw : withinB a m sz with
  | false =>
   have GG : Hid (s.gprog first count a zs = (s, 2)) := by show _ = _; rw [GR.out, if_neg (by rw [hd]; decide), if_neg (by rw [hw]; decide)]
   rw [hw] at WI
   clear hd GR hsz hw
   go_enter Tryz.func88, Tryz.ntmps88
   go_wp2_with fail
   refine (SZ.out _).mono ?_
   rintro e w2 ⟨rfl, k2⟩
   have K2 := Lib.hid (K0.out.trans k2 (T := None) (fun _ h => h) (fun _ _ h => h))
   clear k2
   go_wp2_with fail
   refine (WI.out _).mono ?_
   rintro e w' ⟨rfl, rfl⟩
   go_wp2
   go_ret
   rw [GG.out]
   exact ⟨rfl, _, RTurn.still HW.out K2.out⟩
  | true =>
   have hg : s.gprog first count a zs = s.progF (1024 * first + a) zs := by rw [GR.out, if_neg (by rw [hd]; decide), if_pos hw]
   rw [hw] at WI
   obtain ⟨i, j, rfl, hj, hij⟩ := within_nat hw
   rw [hg]
   obtain ⟨bs, hbs⟩ : ∃ b : Nat, 1024 * first = b := ⟨_, rfl⟩
   obtain ⟨p, hp⟩ : ∃ p : Nat, bs + i = p := ⟨_, rfl⟩
   have e1 : (1024 * (first : Int) + i) = (p : Int) := by omega
   rw [e1]
   have e2 : ((first : Int) * 1024) = bs := by omega
   have w1 : IntKind.i64.wrap ((bs : Int) + i) = p := by rw [show (bs : Int) + i = (p : Int) by omega]; exact wrap_nat _ (by omega)
   have PRp := Lib.hid (fun w' (hh : RAt w' B L s) (hk : Keeps None w w') => PR.out w' p hh hk)
   have hf9 : bs ≤ 262144 := by omega
   generalize s.progF p zs = r at *
   clear GR hg hw hd PR hbs hp e1 hsz hj
   go_enter Tryz.func88, Tryz.ntmps88
   go_wp2_with fail
   refine (SZ.out _).mono ?_
   rintro e w2 ⟨rfl, k2⟩
   have K2 := Lib.hid (K0.out.trans k2 (T := None) (fun _ h => h) (fun _ _ h => h))
   have H2 := Lib.hid (H0.out.later k2)
   have B2 := Lib.hid (k2.blk BX.out (fun h => h))
   clear k2 y0 y1 y2 dk
   have y0 := B2.out.cellD 0 _ rfl
   have y1 := B2.out.cellD 1 _ rfl
   have y2 := B2.out.cellD 2 _ rfl
   go_wp2_with fail
   refine (WI.out _).mono ?_
   rintro e w' ⟨rfl, rfl⟩
   go_wp2_with fail
   refine (PRp.out _ H2.out K2.out).mono ?_
   rintro e w3 ⟨rfl, L3, t3⟩
   have T3 := Lib.hid (RTurn.from K2.out t3)
   clear t3
   go_wp2
   go_ret
   exact ⟨rfl, _, T3.out⟩
theorem tl217 (P : Prop) (h : P := by
 clear hd GR
 go_enter Tryz.func109, Tryz.ntmps109
 go_wp2
 go_ret
 rw [GG.out]
 exact ⟨rfl, _, RTurn.still HW.out K0.out⟩) : P := h
set_option maxRecDepth 100000 in
theorem rgerase_any (B : Nat) (L : RL) (s : FS) (q first count : Nat) (k : Int) (w : World) (h : RAt w B L s) (hq : L.bf = q) (hf : first + count ≤ 256) (hst : 0 ≤ s.steps ∧ s.steps ≤ 1000000000000) (her : ∀ i, 0 ≤ s.er.getD i 0 ∧ s.er.getD i 0 ≤ 1000000000000) :
    Calls Tryz.prog 109 #[.agg #[.pointer (some ⟨q, 0, none⟩), .int .i64 first, .int .i64 count], .int .i64 k] w (RProgTold w B L (s.gerase first count k)) := by
 have GR : Hid (s.gerase first count k = if s.dark = true then (s, 5) else if k < 0 ∨ (count : Int) ≤ k then (s, 2) else s.eraseF (first + k)) := rfl
 have ER := Lib.hid (fun w' k (hh : RAt w' B L s) => rferase_any B L s q k w' hh hq hst her)
 have HW := Lib.hid h
 have k0 : Keeps None w (w.alloc (.cells #[.pointer (some ⟨q, 0, none⟩), .int .i64 first, .int .i64 count] 29)) := (Keeps.refl None w).alloc _
 have bx : Blk (w.alloc (.cells #[.pointer (some ⟨q, 0, none⟩), .int .i64 first, .int .i64 count] 29)) w.heap.size [.pointer (some ⟨q, 0, none⟩), .int .i64 first, .int .i64 count] 29 := Blk.new w [.pointer (some ⟨q, 0, none⟩), .int .i64 first, .int .i64 count] 29
 have K0 := Lib.hid k0
 have BX := Lib.hid bx
 have H0 := Lib.hid (h.later K0.out)
 have dk := H0.out.dk hq
 have y0 := bx.cellD 0 _ rfl
 have y1 := bx.cellD 1 _ rfl
 have y2 := bx.cellD 2 _ rfl
 clear k0 bx
 clear h her hst
 cases hd : s.dark with
 | true =>
  rw [hd] at dk
  have GG : Hid (s.gerase first count k = (s, 5)) := by show _ = _; rw [GR.out, if_pos hd]
  exact tl217 _
 | false =>
  rw [hd] at dk
  by_cases q1 : k < 0
  ·have d1 : decide (k < 0) = true := decide_eq_true q1
   have GG : Hid (s.gerase first count k = (s, 2)) := by show _ = _; rw [GR.out, if_neg (by rw [hd]; decide), if_pos (.inl q1)]
   exact tl217 _
  have d1 : decide (k < 0) = false := decide_eq_false q1
  by_cases q2 : (count : Int) ≤ k
  ·have d2 : decide ((count : Int) ≤ k) = true := decide_eq_true q2
   have GG : Hid (s.gerase first count k = (s, 2)) := by show _ = _; rw [GR.out, if_neg (by rw [hd]; decide), if_pos (.inr q2)]
   exact tl217 _
  have d2 : decide ((count : Int) ≤ k) = false := decide_eq_false q2
  have hg : s.gerase first count k = s.eraseF (first + k) := by rw [GR.out, if_neg (by rw [hd]; decide), if_neg (by omega)]
  have b1 : 0 ≤ k := by omega
  have b2 : k ≤ 256 := by omega
  rw [hg]
  have ERp := Lib.hid (fun w' (hh : RAt w' B L s) => ER.out w' (first + k) hh)
  generalize s.eraseF (first + k) = r at *
  clear GR hg hd ER
  go_enter Tryz.func109, Tryz.ntmps109
  go_wp2_with fail
  refine (ERp.out _ H0.out).mono ?_
  rintro e w3 ⟨rfl, L3, t3⟩
  have T3 := Lib.hid (RTurn.from K0.out t3)
  clear t3
  go_wp2
  go_ret
  exact ⟨rfl, _, T3.out⟩
set_option maxRecDepth 100000 in
theorem rgblank_any (B : Nat) (L : RL) (s : FS) (q first count : Nat) (k : Int) (w : World) (h : RAt w B L s) (hq : L.bf = q) (hf : first + count ≤ L.n) :
    Calls Tryz.prog 108 #[.agg #[.pointer (some ⟨q, 0, none⟩), .int .i64 first, .int .i64 count], .int .i64 k] w (Pure (.tuple #[.bool (s.gblank first count k).1, .int .i64 (s.gblank first count k).2]) w) := by
 have hn9 := h.n9
 have RD := Lib.hid (fun w' a m (hh : RAt w' B L s) => rgread_any B L s q first count a m w' hh hq (by omega))
 have GR : Hid (s.gblank first count k = if s.dark = true then (false, 5) else if k < 0 ∨ (count : Int) ≤ k then (false, 2) else (blankB ((s.b.drop (1024 * (first + k.toNat))).take 1024), 0)) := rfl
 have hbl := h.bl
 have hnN := h.nN
 have k0 : Keeps None w (w.alloc (.cells #[.pointer (some ⟨q, 0, none⟩), .int .i64 first, .int .i64 count] 29)) := (Keeps.refl None w).alloc _
 have bx : Blk (w.alloc (.cells #[.pointer (some ⟨q, 0, none⟩), .int .i64 first, .int .i64 count] 29)) w.heap.size [.pointer (some ⟨q, 0, none⟩), .int .i64 first, .int .i64 count] 29 := Blk.new w [.pointer (some ⟨q, 0, none⟩), .int .i64 first, .int .i64 count] 29
 have K0 := Lib.hid k0
 have BX := Lib.hid bx
 have H0 := Lib.hid (h.later K0.out)
 have dk := H0.out.dk hq
 have y0 := bx.cellD 0 _ rfl
 have y1 := bx.cellD 1 _ rfl
 have y2 := bx.cellD 2 _ rfl
 clear k0 bx
 clear h
 cases hd : s.dark with
 | true =>
  rw [hd] at dk
  have GG : Hid (s.gblank first count k = (false, 5)) := by show _ = _; rw [GR.out, if_pos hd]
  clear hd GR hbl hnN
  go_enter Tryz.func108, Tryz.ntmps108
  go_wp2
  go_ret2
  rw [GG.out]
  exact ⟨rfl, K0.out⟩
 | false =>
  rw [hd] at dk
  by_cases q1 : k < 0
  ·have d1 : decide (k < 0) = true := decide_eq_true q1
   have GG : Hid (s.gblank first count k = (false, 2)) := by show _ = _; rw [GR.out, if_neg (by rw [hd]; decide), if_pos (.inl q1)]
   clear hd GR hbl hnN
   go_enter Tryz.func108, Tryz.ntmps108
   go_wp2
   go_ret2
   rw [GG.out]
   exact ⟨rfl, K0.out⟩
  have d1 : decide (k < 0) = false := decide_eq_false q1
  by_cases q2 : (count : Int) ≤ k
  ·have d2 : decide ((count : Int) ≤ k) = true := decide_eq_true q2
   have GG : Hid (s.gblank first count k = (false, 2)) := by show _ = _; rw [GR.out, if_neg (by rw [hd]; decide), if_pos (.inr q2)]
   clear hd GR hbl hnN
   go_enter Tryz.func108, Tryz.ntmps108
   go_wp2
   go_ret2
   rw [GG.out]
   exact ⟨rfl, K0.out⟩
  obtain ⟨j, rfl⟩ : ∃ j : Nat, k = j := ⟨k.toNat, by omega⟩
  have hj : j < count := by omega
  have d2 : decide ((count : Int) ≤ j) = false := decide_eq_false q2
  have d3 : decide (count ≤ j) = false := decide_eq_false (by omega)
  have hg : s.gblank first count j = (blankB ((s.b.drop (1024 * (first + j))).take 1024), 0) := by rw [GR.out, if_neg (by rw [hd]; decide), if_neg (by omega), Int.toNat_natCast]
  have hr : s.gread first count ((1024 * j : Nat) : Int) 1024 = ((s.b.drop (1024 * (first + j))).take 1024, 0) := by
   exact tl90 _
  rw [hg]
  have RDp := Lib.hid (fun w' (hh : RAt w' B L s) => RD.out w' ((1024 * j : Nat) : Int) 1024 hh)
  rw [hr] at RDp
  obtain ⟨zs, hzs⟩ : ∃ zs, (s.b.drop (1024 * (first + j))).take 1024 = zs := ⟨_, rfl⟩
  rw [hzs] at RDp ⊢
  obtain ⟨p, hp⟩ : ∃ p : Nat, 1024 * j = p := ⟨_, rfl⟩
  have e1 : ((j : Int) * 1024) = p := by omega
  rw [hp] at RDp
  have p9 : p ≤ 262144 := by omega
  clear GR hg hd RD hr hzs hp hbl hnN
  go_enter Tryz.func108, Tryz.ntmps108
  go_wp2_with fail
  refine (RDp.out _ H0.out).mono ?_
  rintro e w3 ⟨v3, rfl, o3, k3⟩
  obtain ⟨A3, c3, rfl, bs3⟩ := slice_of_own o3
  have K3 := Lib.hid (K0.out.trans k3 (T := None) (fun _ h => h) (fun _ _ h => h))
  have IB := Lib.hid (risBlank_any _ _ _ _ _ bs3)
  clear k3 o3 bs3 y0 y1 y2 dk
  go_wp2_with fail
  refine IB.out.mono ?_
  rintro e w' ⟨rfl, rfl⟩
  go_wp2
  go_ret2
  exact ⟨rfl, K3.out⟩
theorem Tryz.infoR29 : (Tryz.prog.info? 29).map (fun i => (i.zero, i.size)) = some (some (.agg #[.pointer none, .int .i64 0, .int .i64 0]), 3) := by kernel_rfl
theorem rrg_res {fn : Func} (hr : fn.results = #[.cell 6 29, .tmp 7]) {w : World} {g : Nat} {a b c x : Value} {T : TypeId} (tmps : Array Value) (h : Blk w g [a, b, c] T) (h2 : tmps.getD 6 undef = .pointer (some ⟨g, 0, none⟩)) (h3 : tmps.getD 7 undef = x) :
    (results fn tmps).run Tryz.prog w = .ok (.tuple #[.agg #[a, b, c], x]) w := by
 have hl : (loadVar 29 ⟨g, 0, none⟩).run Tryz.prog w = .ok (.agg #[a, b, c]) w :=
  run_loadVar_row w g T 29 #[a, b, c] (0, 0) _ h Tryz.underlying29 rfl (by rw [(zero_of_info Tryz.infoR29).2]; rfl)
 rw [results_cell2 (p := 6) (u := 7) (ty := 29) hr, h2, h3]
 simp only [asAddr, Sem.run_pure, Result.andThen_ok, hl]
theorem some_within {a m n : Int} (h1 : 0 ≤ a) (h2 : 1 ≤ m) : someB a m n = withinB a m n := by
 unfold someB withinB
 apply decide_eq_decide.2
 omega
theorem tl219 (P : Prop) (h : P := by
 have zz0 := Blk.cellD (BB.out) 0 _ rfl
 have zz1 := Blk.cellD (BB.out) 1 _ rfl
 have zz2 := Blk.cellD (BB.out) 2 _ rfl
 have zf0 := Blk.frozen (BB.out) 0
 have zf1 := Blk.frozen (BB.out) 1
 have zf2 := Blk.frozen (BB.out) 2
 go_wp2
 refine bodyPost_ret (rrg_res rfl _ (by first | exact BB.out | exact Blk.new _ [_, _, _] _ | exact ((BB.out.set 0 _).set 1 _).set 2 _) rfl rfl) rfl ?_
 exact tl91 _) : P := h
theorem tl218 (P : Prop) (h : P := by
 have hs : someB a m n = false := by unfold someB; exact decide_eq_false (by omega)
 rw [hs] at OF
 clear hs
 go_enter Tryz.func7, Tryz.ntmps7
 exact tl219 _) : P := h
theorem tl220 (P : Prop) (h : P := by
 rw [hw] at OF WI
 clear hw
 go_enter Tryz.func7, Tryz.ntmps7
 go_wp2_with fail
 refine (WI.out _).mono ?_
 rintro e w' ⟨rfl, rfl⟩
 exact tl219 _) : P := h
set_option maxRecDepth 100000 in
theorem rgof_any (B : Nat) (L : RL) (s : FS) (q : Nat) (a m : Int) (w : World) (h : RAt w B L s) (hq : L.bf = q) : Calls Tryz.prog 7 #[.pointer (some ⟨q, 0, none⟩), .int .i64 a, .int .i64 m] w (Pure (ofF (some ⟨q, 0, none⟩) a m L.n 0) w) := by
 have hn9 := h.n9
 have WI := Lib.hid (fun w => rfwithin_any a m L.n (by omega) w)
 have H0 := Lib.hid (h.alloc (.cells #[.pointer none, .int .i64 0, .int .i64 0] 29))
 have BB : Hid (Blk (w.alloc (.cells #[.pointer none, .int .i64 0, .int .i64 0] 29)) w.heap.size [.pointer none, .int .i64 0, .int .i64 0] 29) := Blk.new w [.pointer none, .int .i64 0, .int .i64 0] 29
 have KB : Hid (Keeps None w (w.alloc (.cells #[.pointer none, .int .i64 0, .int .i64 0] 29))) := (Keeps.refl None w).alloc _
 have OF : Hid (ofF (some ⟨q, 0, none⟩) a m L.n 0 = if someB a m L.n = true then .tuple #[.agg #[.pointer (some ⟨q, 0, none⟩), .int .i64 a, .int .i64 m], .int .i64 0] else .tuple #[rg0, .int .i64 1]) := by
  show ofF _ _ _ _ _ = _
  unfold ofF; rw [Int.zero_add]
 have c1 : (w.alloc (.cells #[.pointer none, .int .i64 0, .int .i64 0] 29)).cell? ⟨q, 1, none⟩ = some (.slice (some ⟨L.ge, 0, none⟩) L.n L.n) := by rw [← hq]; exact H0.out.f.cellD 1 _ rfl
 generalize L.n = n at *
 generalize L.ge = ge at *
 clear h
 by_cases g1 : a < 0
 ·have d1 : decide (a < 0) = true := decide_eq_true g1
  exact tl218 _
 have d1 : decide (a < 0) = false := decide_eq_false g1
 by_cases g2 : m < 1
 ·have d2 : decide (m < 1) = true := decide_eq_true g2
  have d2' : decide (m ≤ 0) = true := decide_eq_true (by omega)
  exact tl218 _
 have d2 : decide (m < 1) = false := decide_eq_false g2
 have d2' : decide (m ≤ 0) = false := decide_eq_false (by omega)
 rw [some_within (by omega) (by omega)] at OF
 cases hw : withinB a m n with
 | false =>
  exact tl220 _
 | true =>
  exact tl220 _
open Go.RowKit
section
variable {s r : FS}
theorem Sim.gblank (h : Sim s r) (f c : Nat) (k : Int) : r.gblank f c k = s.gblank f c k := by obtain ⟨l, rfl, _⟩ := h; rfl
theorem Sim.gprog (h : Sim s r) (f c : Nat) (a : Int) (zs : List Int) (hs : s.steps + zs.length ≤ 1000000000000) : Sim (s.gprog f c a zs).1 (r.gprog f c a zs).1 ∧ (r.gprog f c a zs).2 = (s.gprog f c a zs).2 := by
 unfold FS.gprog
 rw [h.dark]
 split
 ·exact ⟨h, rfl⟩
 ·split
  ·exact h.prog _ _ hs
  ·exact ⟨h, rfl⟩
theorem Sim.gerase (h : Sim s r) (f c : Nat) (k : Int) (hs : s.steps ≤ 1000000000000) : Sim (s.gerase f c k).1 (r.gerase f c k).1 ∧ (r.gerase f c k).2 = (s.gerase f c k).2 := by
 unfold FS.gerase
 rw [h.dark]
 split
 ·exact ⟨h, rfl⟩
 ·split
  ·exact ⟨h, rfl⟩
  ·exact h.erase _ hs
end
open Go.RowKit
section
variable {w : World} {B : Nat} {L : FL} {s : FS} {cb q f c : Nat} {k : KS}
end
section
variable {f c : Nat} {s : FS} {k : KS} {z : Int}
end
open Go.RowKit
structure RS where
  at_ : Nat
  held : List Int
  dead : Int
  rdy : List Bool
  ent : List Bool
def FS.gclear (s : FS) (f c : Nat) (k : Int) : FS × Int :=
  if (s.gblank f c k).2 ≠ 0 ∨ (s.gblank f c k).1 = true then (s, (s.gblank f c k).2) else s.gerase f c k
structure RKL where
  cb : Nat
  rb : Nat
  eb : Nat
  A : Option Addr
  cap : Nat
section
variable {w w' : World} {B : Nat} {L L' : RL} {s s' : FS} {K : RKL} {q f c : Nat} {k : RS}
end
theorem tl221 (P : Prop) (h : P := by
 clear GR
 go_enter Tryz.func89, Tryz.ntmps89
 go_wp2_with fail
 refine (BL.out _ H0.out).mono ?_
 rintro e w2 ⟨rfl, k2⟩
 have K2 := Lib.hid (K0.out.trans k2 (T := None) (fun _ h => h) (fun _ _ h => h))
 clear k2
 go_wp2
 go_ret
 rw [GG.out]
 exact ⟨rfl, _, RTurn.still HW.out K2.out⟩) : P := h
set_option maxRecDepth 100000 in
theorem rgclear_any (B : Nat) (L : RL) (s : FS) (q first count : Nat) (k : Int) (w : World) (h : RAt w B L s) (hq : L.bf = q) (hf : first + count ≤ L.n) (hst : 0 ≤ s.steps ∧ s.steps ≤ 1000000000000) (her : ∀ i, 0 ≤ s.er.getD i 0 ∧ s.er.getD i 0 ≤ 1000000000000) :
    Calls Tryz.prog 89 #[.agg #[.pointer (some ⟨q, 0, none⟩), .int .i64 first, .int .i64 count], .int .i64 k] w (RProgTold w B L (s.gclear first count k)) := by
 have hn9 := h.n9
 have GR : Hid (s.gclear first count k = if (s.gblank first count k).2 ≠ 0 ∨ (s.gblank first count k).1 = true then (s, (s.gblank first count k).2) else s.gerase first count k) := rfl
 have BL := Lib.hid (fun w' (hh : RAt w' B L s) => rgblank_any B L s q first count k w' hh hq hf)
 have ER := Lib.hid (fun w' (hh : RAt w' B L s) => rgerase_any B L s q first count k w' hh hq (by omega) hst her)
 obtain ⟨bk, er, hbk⟩ : ∃ bk er, s.gblank first count k = (bk, er) := ⟨_, _, rfl⟩
 rw [hbk] at BL GR
 have HW := Lib.hid h
 have k0 : Keeps None w (w.alloc (.cells #[.pointer (some ⟨q, 0, none⟩), .int .i64 first, .int .i64 count] 29)) := (Keeps.refl None w).alloc _
 have bx : Blk (w.alloc (.cells #[.pointer (some ⟨q, 0, none⟩), .int .i64 first, .int .i64 count] 29)) w.heap.size [.pointer (some ⟨q, 0, none⟩), .int .i64 first, .int .i64 count] 29 := Blk.new w [.pointer (some ⟨q, 0, none⟩), .int .i64 first, .int .i64 count] 29
 have K0 := Lib.hid k0
 have BX := Lib.hid bx
 have H0 := Lib.hid (h.later K0.out)
 have dk := H0.out.dk hq
 have y0 := bx.cellD 0 _ rfl
 have y1 := bx.cellD 1 _ rfl
 have y2 := bx.cellD 2 _ rfl
 clear k0 bx
 have D0 := Lib.hid dk
 clear h dk hbk
 by_cases q1 : er = 0
 ·subst q1
  cases bk with
  | true =>
   have GG : Hid (s.gclear first count k = (s, 0)) := by show _ = _; rw [GR.out, if_pos (.inr rfl)]
   exact tl221 _
  | false =>
   have GG : Hid (s.gclear first count k = s.gerase first count k) := by show _ = _; rw [GR.out, if_neg (by simp)]
   rw [GG.out]
   clear GR GG
   go_enter Tryz.func89, Tryz.ntmps89
   go_wp2_with fail
   refine (BL.out _ H0.out).mono ?_
   rintro e w2 ⟨rfl, k2⟩
   have K2 := Lib.hid (K0.out.trans k2 (T := None) (fun _ h => h) (fun _ _ h => h))
   have H2 := Lib.hid (H0.out.later k2)
   have B2 := Lib.hid (k2.blk BX.out (fun h => h))
   clear k2 y0 y1 y2
   have y0 := B2.out.cellD 0 _ rfl
   have y1 := B2.out.cellD 1 _ rfl
   have y2 := B2.out.cellD 2 _ rfl
   generalize s.gerase first count k = r at *
   go_wp2_with fail
   refine (ER.out _ H2.out).mono ?_
   rintro e w3 ⟨rfl, L3, t3⟩
   go_wp2
   go_ret
   exact ⟨rfl, L3, RTurn.from K2.out t3⟩
 ·have d1 : (er != 0) = true := by simp [q1]
  have GG : Hid (s.gclear first count k = (s, er)) := by show _ = _; rw [GR.out, if_pos (.inl q1)]
  exact tl221 _
open Go.RowKit
structure KB (w : World) (L : FL) (cb : Nat) (A : Option Addr) (n cap : Nat) (zs : List Int) : Prop where
  bs : Bs w A n cap zs
  ap : ∀ b off, 0 < n → A = some ⟨b, off, none⟩ → ¬ L.O b ∧ b ≠ cb
open Go.RowKit
section
variable (f c : Nat) (s : FS) (k : RS)
end
section
variable {f c : Nat} {s : FS} {k : RS} {m : Nat}
end
open Go.RowKit
open Go.RowKit
open Go.RowKit
open Go.RowKit
open Go.RowKit
theorem Sim.gclear {s r : FS} (h : Sim s r) (f c : Nat) (k : Int) (hs : s.steps ≤ 1000000000000) : Sim (s.gclear f c k).1 (r.gclear f c k).1 ∧ (r.gclear f c k).2 = (s.gclear f c k).2 := by
 unfold FS.gclear
 rw [h.gblank]
 split
 ·exact ⟨h, rfl⟩
 ·exact h.gerase f c k hs
open Go.RowKit
theorem layE_clear (s : FS) (k : Int) : layE s k = s.gclear 0 2 k := by
 unfold layE FS.gclear
 by_cases h1 : (s.gblank 0 2 k).2 = 0
 ·cases h2 : (s.gblank 0 2 k).1
  ·rw [if_pos ⟨h1, rfl⟩, if_neg (by simp [h1])]
  ·rw [if_neg (by simp), if_pos (.inr rfl)]
 ·rw [if_neg (fun h => h1 h.1), if_pos (.inl h1)]
theorem Sim.app {s r : FS} (h : Sim s r) {m : Nat} (rm : JRm s (m + 1625)) (j : JS) (kind : Int) (body : List Int) : Sim (appF s j kind body).1 (appF r j kind body).1 ∧ (appF r j kind body).2 = (appF s j kind body).2 := by
 have hp := putL_le kind ((j.l.length : Int) + 1) body
 have h1 := rm.st
 obtain ⟨g1, g2⟩ := h.gprog 0 2 (j.cur * 1024 + j.used) (putL kind ((j.l.length : Int) + 1) body) (by omega)
 unfold appF
 split
 ·exact ⟨h, rfl⟩
 ·split
  ·exact ⟨h, rfl⟩
  ·split
   ·exact ⟨h, rfl⟩
   ·rw [g2]
    split
    ·exact ⟨g1, rfl⟩
    ·exact ⟨g1, rfl⟩
theorem Sim.lay {s r : FS} (h : Sim s r) {m : Nat} (rm : JRm s (m + 1625)) (k : Int) (e : Nat) (b : List Int) (hb : b.length ≤ 1008) : Sim (layF s k e b).1 (layF r k e b).1 ∧ (layF r k e b).2 = (layF s k e b).2 := by
 have h0 := rm.st
 obtain ⟨a1, a2⟩ := h.gclear 0 2 k (by omega)
 rw [← layE_clear, ← layE_clear] at a1 a2
 have r1 : JRm (layE s k).1 (m + 1608) := by
  unfold layE
  split
  ·exact JRm.erase (rm.less (by omega)) _ _ _
  ·exact rm.less (by omega)
 have b12 : Sim (layP (layE s k) k b).1 (layP (layE r k) k b).1 ∧ (layP (layE r k) k b).2 = (layP (layE s k) k b).2 := by
  unfold layP
  rw [a2]
  split
  ·have := r1.st
   exact a1.gprog 0 2 _ b (by omega)
  ·exact ⟨a1, a2⟩
 have r2 : JRm (layP (layE s k) k b).1 (m + 600) := by
  unfold layP
  split
  ·exact JRm.prog (r1.less (by omega)) _ _ _
  ·exact r1.less (by omega)
 unfold layF layH
 rw [b12.2]
 split
 ·have := r2.st
  have := putL_le 1 ((e : Int) + 1) []
  exact b12.1.gprog 0 2 _ _ (by omega)
 ·exact b12
theorem Sim.cmp {s r : FS} (h : Sim s r) {m : Nat} (rm : JRm s (m + 1625)) (j : JS) (recs : List Rec) : Sim (cmpF s j recs).1 (cmpF r j recs).1 ∧ (cmpF r j recs).2 = (cmpF s j recs).2 := by
 unfold cmpF
 split
 ·exact ⟨h, rfl⟩
 ·split
  ·exact ⟨h, rfl⟩
  ·split
   ·exact ⟨h, rfl⟩
   ·rename_i b hb
    obtain ⟨g1, g2⟩ := h.lay rm (nextZ j.cur) j.epoch b (packF_len _ _ _ (by decide) hb)
    rw [g2]
    split
    ·exact ⟨g1, rfl⟩
    ·exact ⟨g1, rfl⟩
theorem Sim.keep {s r : FS} (h : Sim s r) {m : Nat} (rm : JRm s (m + 3250)) (j : JS) (st : St) (kind : Int) (body : List Int) : Sim (keepF s j st kind body).1 (keepF r j st kind body).1 ∧ (keepF r j st kind body).2 = (keepF s j st kind body).2 := by
 obtain ⟨a1, a2⟩ := h.app (m := m + 1625) rm j kind body
 have r1 := JRm.app (m := m + 1625) rm j kind body
 unfold keepF
 obtain ⟨s1, j1, e1, hs1⟩ : ∃ s1 j1 e1, appF s j kind body = (s1, j1, e1) := ⟨_, _, _, rfl⟩
 obtain ⟨r1', j2, e2, hr1⟩ : ∃ s1 j1 e1, appF r j kind body = (s1, j1, e1) := ⟨_, _, _, rfl⟩
 rw [hs1, hr1] at a1 a2
 rw [hs1] at r1
 obtain ⟨rfl, rfl⟩ : j2 = j1 ∧ e2 = e1 := by simpa using a2
 rw [hs1, hr1]
 dsimp only
 by_cases h14 : e2 = 14
 ·rw [if_pos h14, if_pos h14]
  obtain ⟨c1, c2⟩ := Sim.cmp (m := m) a1 r1 j2 (recsS (nextS st kind body))
  rw [c2]
  exact ⟨c1, rfl⟩
 ·rw [if_neg h14, if_neg h14]
  exact ⟨a1, rfl⟩
theorem Sim.act {s r : FS} (h : Sim s r) {m : Nat} (rm : JRm s (m + 3250)) (j : JS) (st : St) (a : AV) : Sim (actF s j st a).1 (actF r j st a).1 ∧ (actF r j st a).2 = (actF s j st a).2 := by
 unfold actF commitF checkF clearF
 split
 ·split
  ·exact h.keep rm j st _ _
  ·exact ⟨h, rfl⟩
 ·split
  ·split
   ·exact h.keep rm j st _ _
   ·exact ⟨h, rfl⟩
  ·split
   ·split
    ·exact h.keep rm j st _ _
    ·exact ⟨h, rfl⟩
   ·exact ⟨h, rfl⟩
structure LP (s : FS) (j : JS) (st : St) (k m : Nat) : Prop where
  g : FG s 2
  inv : st.inv
  ok : JOk j
  rm : JRm s (1625 * m)
  u : (s.dark = false ∧ ∃ e c l T, Keep s e c l T ∧ j = keptJ e c l T ∧ st = foldS l ∧ e ≤ k) ∨ (j.err ≠ 0 ∧ ∃ e c l T, Keep s.bootF e c l T ∧ e ≤ k)
theorem LP.less {s : FS} {j : JS} {st : St} {k m k' m' : Nat} (h : LP s j st k m) (hk : k ≤ k') (hm : m' ≤ m) : LP s j st k' m' :=
  ⟨h.g, h.inv, h.ok, h.rm.less (by omega), h.u.imp (fun ⟨h1, e, c, l, T, h2, h3, h4, h5⟩ => ⟨h1, e, c, l, T, h2, h3, h4, by omega⟩) (fun ⟨h1, e, c, l, T, h2, h3⟩ => ⟨h1, e, c, l, T, h2, by omega⟩)⟩
theorem LP.new : LP (newF ((2 : Nat) : Int)) (keptJ 0 (-1) [] []) (foldS []) 0 100 := by
 have h := Live.new 2 (by decide) (by decide)
 exact ⟨h.g, foldS_inv (fun r hr => by cases hr), h.keep.ok, h.rm, .inl ⟨h.dark, 0, -1, [], [], h.keep, rfl, rfl, Nat.le_refl _⟩⟩
theorem LP.arm {s : FS} {j : JS} {st : St} {k m : Nat} (h : LP s j st k m) (a : Int) {ps : List Int} (hp : Byt ps) : LP (s.armF a ps) j st k m := by
 refine ⟨h.g.arm a hp, h.inv, h.ok, h.rm.arm a ps, h.u.imp (fun ⟨h1, e, c, l, T, h2, h3, h4, h5⟩ => ⟨by rw [(armF_b s a ps).2]; exact h1, e, c, l, T, h2.arm a ps, h3, h4, h5⟩) (fun ⟨h1, e, c, l, T, h2, h3⟩ => ⟨h1, e, c, l, T, ?_, h3⟩)⟩
 unfold Keep at h2 ⊢
 have e1 : (s.armF a ps).bootF.b = s.bootF.b := (armF_b s a ps).1
 rw [e1]
 exact h2
theorem LP.boot {s : FS} {j : JS} {st : St} {k m : Nat} (h : LP s j st k m) : ∃ e c l T, Keep s.bootF e c l T ∧ e ≤ k ∧ LP s.bootF (keptJ e c l T) (foldS l) k m := by
 have key : ∀ e c l T, Keep s.bootF e c l T → e ≤ k → LP s.bootF (keptJ e c l T) (foldS l) k m := fun e c l T hk he =>
  ⟨h.g.boot, foldS_inv hk.bytG, hk.ok, h.rm.boot, .inl ⟨rfl, e, c, l, T, hk, rfl, rfl, he⟩⟩
 rcases h.u with ⟨-, e, c, l, T, h2, -, -, h5⟩ | ⟨-, e, c, l, T, h2, h3⟩
 ·exact ⟨e, c, l, T, h2.boot, h5, key e c l T h2.boot h5⟩
 ·exact ⟨e, c, l, T, h2, h3, key e c l T h2 h3⟩
theorem LP.appOk {s : FS} {j : JS} {st : St} {k m : Nat} (h : LP s j st k m) (kind : Int) {body : List Int} (hb : Byt body) : JOk (appF s j kind body).2.1 ∧ 2 ≤ (appF s j kind body).1.er.length := by
 rcases h.u with ⟨h1, e, c, l, T, h2, rfl, -, -⟩ | ⟨h1, -⟩
 ·exact app_ok h.g h1 h2 kind hb
 ·have e : appF s j kind body = (s, j, j.err) := by unfold appF; rw [if_pos h1]
  rw [e]
  exact ⟨h.ok, by rw [h.g.el]; exact Nat.le_refl _⟩
theorem LP.keep {s : FS} {j : JS} {st : St} {k m : Nat} (h : LP s j st k (m + 2)) (hk : k + 1 ≤ 4294967295) (kind : Int) {body : List Int} (hb : Byt body) :
    ∃ s' j' st' er, keepF s j st kind body = (s', j', st', er) ∧ LP s' j' st' (k + 1) m := by
 rcases h.u with ⟨h1, e, c, l, T, h2, rfl, rfl, h5⟩ | ⟨h1, e, c, l, T, h2, h3⟩
 ·have inv := h.inv
  have hr := JRm.app (m := 1625 * (m + 1)) (h.rm.less (by omega)) (keptJ e c l T) kind body
  have same : LP s (keptJ e c l T) (foldS l) (k + 1) m := h.less (by omega) (by omega)
  rcases keep_app h.g h1 h2 kind body hb with ⟨-, a1⟩ | ⟨-, -, a1⟩ | ⟨s', -, -, -, -, g', ⟨b1, b2, b3, -, -⟩ | ⟨b1, -, b3⟩⟩
  ·exact ⟨s, keptJ e c l T, foldS l, 1, by unfold keepF; simp [a1], same⟩
  ·have hby := recsS_byt (nextS_inv inv kind hb)
   have hr2 := JRm.cmp (m := 1625 * m) (h.rm.less (by omega)) (keptJ e c l T) (recsS (nextS (foldS l) kind body))
   rcases keep_cmp h.g h1 h2 (by omega) (recsS (nextS (foldS l) kind body)) hby with ⟨-, c1⟩ | ⟨s', -, -, -, g', ⟨c1, c2, c3, -, -⟩ | ⟨c1, -, c3⟩⟩
   ·exact ⟨s, keptJ e c l T, foldS l, 1, by unfold keepF; simp [a1, c1], same⟩
   ·rw [c1] at hr2
    exact ⟨s', _, nextS (foldS l) kind body, 0, by unfold keepF; simp [a1, c1], g', nextS_inv inv kind hb, c3.ok, hr2, .inl ⟨c2, _, _, _, _, c3, rfl, (foldS_next inv kind hb).symm, by omega⟩⟩
   ·rw [c1] at hr2
    refine ⟨s', { keptJ e c l T with err := 5 }, foldS l, 5, by unfold keepF; simp [a1, c1], g', inv, h.ok.err 5, hr2, .inr ⟨show (5 : Int) ≠ 0 by decide, ?_⟩⟩
    rcases c3 with c3 | c3
    ·exact ⟨_, _, _, _, c3, by omega⟩
    ·exact ⟨_, _, _, _, c3, by omega⟩
  ·rw [b1] at hr
   exact ⟨s', _, nextS (foldS l) kind body, 0, by unfold keepF; simp [b1], g', nextS_inv inv kind hb, b3.ok, hr.less (by omega), .inl ⟨b2, _, _, _, _, b3, rfl, (foldS_push l kind _ body inv).symm, by omega⟩⟩
  ·rw [b1] at hr
   refine ⟨s', { keptJ e c l T with err := 5 }, foldS l, 5, by unfold keepF; simp [b1], g', inv, h.ok.err 5, hr.less (by omega), .inr ⟨show (5 : Int) ≠ 0 by decide, ?_⟩⟩
   rcases b3 with ⟨T', b3⟩ | b3
   ·exact ⟨_, _, _, _, b3, by omega⟩
   ·exact ⟨_, _, _, _, b3, by omega⟩
 ·have a1 : appF s j kind body = (s, j, j.err) := by unfold appF; rw [if_pos h1]
  have c1 : cmpF s j (recsS (nextS st kind body)) = (s, j, j.err) := by unfold cmpF; rw [if_pos h1]
  refine ⟨s, j, st, j.err, ?_, h.less (by omega) (by omega)⟩
  unfold keepF
  simp only [a1, c1, ite_self]
  rw [if_neg h1]
theorem LP.act {s : FS} {j : JS} {st : St} {k m : Nat} (h : LP s j st k (m + 2)) (hk : k + 1 ≤ 4294967295) {w : World} {a : AV} (ha : a.ok w) : ∃ s' j' st' er, actF s j st a = (s', j', st', er) ∧ LP s' j' st' (k + 1) m := by
 rcases actF_or s j st ha with ⟨er, h1⟩ | h1
 ·exact ⟨s, j, st, er, h1, h.less (by omega) (by omega)⟩
 ·rw [h1]
  exact h.keep hk _ (actRec_byt ha)
end Go.Proofs.YtobgbilanibodaaGreat
