
/- The walks of a ledger's Check and Clear. -/
import Derived.Test.YtfldgaiiniknpaaLCuXLg12
namespace Go.Proofs.Ytfldgaiiniknpaa
open Go.RowKit

def checkF (s : FS) (j : JS) (st : St) (c : Chk) : FS × JS × St × Int := if c.may then keepF s j st 3 (chkL c) else (s, j, st, 1)
set_option maxRecDepth 100000 in
set_option maxHeartbeats 3200000 in
theorem lgcheck_any {W w : World} {B q lb jb : Nat} {X : JX} {s : FS} {j : JS} {st : St} {A : Option Addr} {n cap m : Nat} (h : LG W w B q lb jb X s j st A n cap) (ok : JOk j) (c : Chk) (oc : c.ok) {kA : Option Addr} {kn kc : Nat} (hm : Bs w kA kn kc c.mid)
    (ok2 : JOk (appF s j 3 (chkL c)).2.1) (hel : 2 ≤ (appF s j 3 (chkL c)).1.er.length) (rm : JRm s (m + 3250)) :
    Calls Try.prog 49 #[.pointer (some ⟨lb, 0, none⟩), c.v kA kn kc] w (LGDone W w B q lb jb X (checkF s j st c)) := by
  have G := Lib.hid h
  have CO := Lib.hid oc
  have PUT := Lib.hid (fun w h => lgputk_any c oc kA kn kc w h)
  have HMD := Lib.hid hm
  unfold Chk.v at PUT ⊢
  obtain ⟨w0, hw0⟩ : ∃ x, w.alloc (.cells (c.cs kA kn kc).toArray 29) = x := ⟨_, rfl⟩
  have CB : Hid (Blk w0 w.heap.size (c.cs kA kn kc) 29) := by rw [← hw0]; exact Blk.new w (c.cs kA kn kc) 29
  have K0 : Hid (Keeps None w w0) := by rw [← hw0]; exact (Keeps.refl None w).alloc _
  have KP := Lib.hid (fun (w' : World) (A' : Option Addr) (n' c' : Nat) (g : LG W w' B q lb jb X s j st A n cap) (hb : Bs w' A' n' c' (chkL c)) (hn : n' ≤ 600) (hS : ∀ b off, 0 < n' → A' = some ⟨b, off, none⟩ → ¬ X.S b) => lgkeep_any g ok 3 hb hn hS ok2 hel rm)
  obtain ⟨V, hV⟩ : ∃ V, (c.cs kA kn kc).toArray = V := ⟨_, rfl⟩
  rw [hV] at hw0 ⊢
  have HV := Lib.hid hV
  clear h ok oc ok2 hel rm hV hm
  go_enter Try.func49, Try.ntmps49
  go_wp2_with (refine wpList_load_blk (b := w.heap.size) (o := 0) (ds := c.cs kA kn kc) CB.out (fun j v hv => by rw [Nat.zero_add]; exact hv) rfl rfl rfl Try.underlying29 rfl (by rw [Chk.cs_len CO.out]; exact chk_size) ?_)
  go_wp2_with fail
  refine (PUT.out _ (HMD.out.keeps K0.out (fun _ _ _ _ _ h => h))).mono ?_
  rintro e w1 ⟨v1, rfl, o1, k1⟩
  obtain ⟨A1, c1, rfl, b1, -⟩ := o1.shape
  have K1 := Lib.hid (K0.out.trans k1 (T := None) (fun _ h => h) (fun _ _ h => h))
  have G1 := Lib.hid (G.out.later K1.out)
  have q1 := b1.le
  have q2 := b1.max
  have B1 := Lib.hid b1
  have NS : Hid (∀ b off, 0 < (chkL c).length → A1 = some ⟨b, off, none⟩ → ¬ X.S b) := fun b off hn e hS => by
    have h1 := ((chkV_own o1).p b off hn e).1
    have h2 := G.out.lj.at_.lt b hS
    have h3 := K0.out.size
    omega
  by_cases hmay : c.may
  · have L96 : (chkL c).length = 232 := chkL_len hmay CO.out
    rw [L96] at B1 NS q1 ⊢
    have KD := Lib.hid (KP.out w1 A1 232 c1 G1.out B1.out (by decide) NS.out)
    have CF : Hid (checkF s j st c = keepF s j st 3 (chkL c)) := if_pos hmay
    clear KP NS B1 b1 o1 k1
    go_wp2_with fail
    refine KD.out.mono ?_
    rw [← CF.out]
    rintro e w2 ⟨rfl, X2, A2, n2, c2, g2, t2⟩
    have G2 := Lib.hid g2
    have T2 := Lib.hid (t2.ahead K1.out)
    clear g2 t2
    go_wp2
    go_ret
    exact ⟨rfl, X2, A2, n2, c2, G2.out, T2.out⟩
  · have L0 : (chkL c).length = 0 := Nat.eq_zero_of_not_pos (fun h => hmay (chkL_pos.1 h))
    rw [L0]
    have CF : Hid (checkF s j st c = (s, j, st, 1)) := if_neg hmay
    clear KP NS B1 b1 o1 k1
    go_wp2
    go_ret
    rw [CF.out]
    exact ⟨rfl, X, A, n, cap, G1.out, LGT.same K1.out⟩
def clearF (s : FS) (j : JS) (st : St) : FS × JS × St × Int := if st.has = true then keepF s j st 4 [] else (s, j, st, 0)
set_option maxRecDepth 100000 in
set_option maxHeartbeats 1600000 in
theorem lgclear_any {W w : World} {B q lb jb : Nat} {X : JX} {s : FS} {j : JS} {st : St} {A : Option Addr} {n cap m : Nat} (h : LG W w B q lb jb X s j st A n cap) (ok : JOk j)
    (ok2 : JOk (appF s j 4 []).2.1) (hel : 2 ≤ (appF s j 4 []).1.er.length) (rm : JRm s (m + 3250)) :
    Calls Try.prog 50 #[.pointer (some ⟨lb, 0, none⟩)] w (LGDone W w B q lb jb X (clearF s j st)) := by
  have KD := Lib.hid (lgkeep_any h ok 4 (bA := none) (bn := 0) (bc := 0) (body := []) ⟨rfl, Nat.le_refl _, by decide, (fun _ => ⟨rfl, rfl⟩), (fun z hz => by cases hz), fun h => absurd h (Nat.lt_irrefl _)⟩ (by decide) (fun b off hn _ => absurd hn (Nat.lt_irrefl _)) ok2 hel rm)
  have x69 : w.cell? ⟨lb, 69, none⟩ = some (.bool st.has) := h.l.cellD 69 _ (St.cs_has h.inv.ok A n cap)
  have G := Lib.hid h
  obtain ⟨hs, hhs⟩ : ∃ b, st.has = b := ⟨_, rfl⟩
  have HHS := Lib.hid hhs
  rw [hhs] at x69
  clear h ok ok2 hel rm hhs
  go_enter Try.func50, Try.ntmps50
  cases hs with
  | false =>
    have CF : Hid (clearF s j st = (s, j, st, 0)) := if_neg (by rw [HHS.out]; decide)
    go_wp2
    go_ret
    rw [CF.out]
    exact ⟨rfl, X, A, n, cap, G.out, LGT.same (Keeps.refl None w)⟩
  | true =>
    have CF : Hid (clearF s j st = keepF s j st 4 []) := if_pos HHS.out
    go_wp2_with fail
    refine KD.out.mono ?_
    rw [← CF.out]
    rintro e w2 ⟨rfl, X2, A2, n2, c2, g2, t2⟩
    have G2 := Lib.hid g2
    have T2 := Lib.hid t2
    clear g2 t2
    go_wp2
    go_ret
    exact ⟨rfl, X2, A2, n2, c2, G2.out, T2.out⟩
end Go.Proofs.Ytfldgaiiniknpaa
