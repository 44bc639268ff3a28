
/- The walk of the reference's Pack. -/
import Derived.Test.YtnanbnaikmaljaaLzPXTkPack2
namespace Go.Proofs.Ytnanbnaikmaljaa
open Go.RowKit

def rms0 : Ms := { p0 := 1024, p1 := 1024, beh := 0, bt := rnewN (2 ^ 8), lt := rnewN (2 ^ 8), dt := rnewN (2 ^ 6) }
theorem CGood.rstart : CGood cst0 rms0 := ⟨by decide, by decide, ⟨TOk.rnew 8, TOk.rnew 8, TOk.rnew 6, .inl rfl⟩⟩
/-- Alike but for the trees' places 0. -/
structure MAgree (m r : Ms) : Prop where
  p0 : r.p0 = m.p0
  p1 : r.p1 = m.p1
  beh : r.beh = m.beh
  bt : Agree m.bt r.bt
  lt : Agree m.lt r.lt
  dt : Agree m.dt r.dt
theorem MAgree.start : MAgree ms0 rms0 := ⟨rfl, rfl, rfl, Agree.new _ (by decide), Agree.new _ (by decide), Agree.new _ (by decide)⟩
theorem MAgree.pr {m r : Ms} (h : MAgree m r) : r.pr = m.pr := by unfold Ms.pr; rw [h.beh, h.p0, h.p1]
theorem MAgree.kind {m r : Ms} (h : MAgree m r) (is : Int) : MAgree (m.kind is) (r.kind is) := by
  unfold Ms.kind
  rw [h.beh]
  split
  · exact ⟨by show adapt r.p0 is = adapt m.p0 is; rw [h.p0], h.p1, rfl, h.bt, h.lt, h.dt⟩
  · exact ⟨h.p0, by show adapt r.p1 is = adapt m.p1 is; rw [h.p1], rfl, h.bt, h.lt, h.dt⟩
theorem MAgree.tok {m r : Ms} (h : MAgree m r) (c : CSt) (t : Tok) : (eTok c r t).1 = (eTok c m t).1 ∧ MAgree (eTok c m t).2 (eTok c r t).2 := by
  unfold eTok
  rw [h.pr]
  split
  · have k := h.kind 0
    have a := tRun_agree t.b.toNat 8 ⟨cBitS c m.pr 0, (m.kind 0).bt, 1⟩ ⟨cBitS c m.pr 0, (r.kind 0).bt, 1⟩ rfl rfl k.bt
    exact ⟨a.1.symm, ⟨k.p0, k.p1, k.beh, a.2, k.lt, k.dt⟩⟩
  · have k := h.kind 1
    have a := tRun_agree (t.n - 2).toNat 8 ⟨cBitS c m.pr 1, (m.kind 1).lt, 1⟩ ⟨cBitS c m.pr 1, (r.kind 1).lt, 1⟩ rfl rfl k.lt
    have a2 := tRun_agree ((t.d - 1).toNat / 64) 6 ⟨(tRun (t.n - 2).toNat 8 ⟨cBitS c m.pr 1, (m.kind 1).lt, 1⟩).c, (m.kind 1).dt, 1⟩ ⟨(tRun (t.n - 2).toNat 8 ⟨cBitS c m.pr 1, (r.kind 1).lt, 1⟩).c, (r.kind 1).dt, 1⟩ a.1 rfl k.dt
    exact ⟨by show hRun _ _ _ = hRun _ _ _; rw [a2.1], ⟨k.p0, k.p1, k.beh, k.bt, a.2, a2.2⟩⟩
theorem MAgree.row : ∀ (ts : List Tok) (c : CSt) (m r : Ms), MAgree m r → (eRow ts (c, r)).1 = (eRow ts (c, m)).1
  | [], _, _, _, _ => rfl
  | t :: ts, c, m, r, h => by
    obtain ⟨h1, h2⟩ := h.tok c t
    have := MAgree.row ts (eTok c m t).1 _ _ h2
    show (eRow ts ((eTok c r t).1, (eTok c r t).2)).1 = (eRow ts ((eTok c m t).1, (eTok c m t).2)).1
    rw [h1]; exact this
theorem rpack_yes {ts : List Tok} (h : rightB ts 0 = true) : packL ts = (eRow ts (cst0, rms0)).1.l := by
  rw [pack_yes h, MAgree.row ts cst0 ms0 rms0 MAgree.start]

theorem Own.raise {w : World} {B B' g n cap : Nat} {zs : List Int} (h : Own w B (.slice (some ⟨g, 0, none⟩) n cap) zs) (hB : B' ≤ g) : Own w B' (.slice (some ⟨g, 0, none⟩) n cap) zs := by
  refine ⟨⟨h.1.1, ?_⟩, h.2⟩
  rcases h.1.2 with hn | ⟨g', cap', cur, e, hb, rest⟩
  · exact .inl hn
  · cases e
    exact .inr ⟨g, cap, cur, rfl, hB, rest⟩
structure TL.ROrd (T : TL) : Prop where
  o1 : T.b1 < T.g1
  o2 : T.g1 < T.b2
  o3 : T.b2 < T.g2
  o4 : T.g2 < T.b3
  o5 : T.b3 < T.g3
  o6 : T.g3 < T.sb
structure RTrees (w : World) (T : TL) (m : Ms) : Prop where
  t1 : RTree w T.b1 T.g1 8 m.bt
  t2 : RTree w T.b2 T.g2 8 m.lt
  t3 : RTree w T.b3 T.g3 6 m.dt
theorem RTrees.keeps {w w' : World} {T : TL} {m : Ms} {S : Nat → Prop} (h : RTrees w T m) (hk : Keeps S w w') (hS : ∀ k, T.b1 ≤ k → k ≤ T.g3 → ¬ S k) (o : T.ROrd) : RTrees w' T m := by
  obtain ⟨o1, o2, o3, o4, o5, o6⟩ := o
  exact ⟨h.t1.keeps hk (hS _ (by omega) (by omega)) (hS _ (by omega) (by omega)), h.t2.keeps hk (hS _ (by omega) (by omega)) (hS _ (by omega) (by omega)), h.t3.keeps hk (hS _ (by omega) (by omega)) (hS _ (by omega) (by omega))⟩
end Go.Proofs.Ytnanbnaikmaljaa
