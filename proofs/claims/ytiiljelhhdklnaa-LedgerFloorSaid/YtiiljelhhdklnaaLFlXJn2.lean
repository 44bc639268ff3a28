
/- The walks of journal's epoch and read; a record is pushed. -/
import Derived.Test.YtiiljelhhdklnaaLFlXJn
import Derived.Deep.LoopGhost
namespace Go.Proofs.Ytiiljelhhdklnaa
open Go.RowKit

/-- What a read record has behind it. -/
theorem get_full {xs bl : List Int} {k s n : Int} (h : getL xs = some (k, s, bl, n)) :
    fitsR k s bl.length ∧ n = sizeZ bl.length ∧ 16 ≤ n ∧ n ≤ xs.length ∧ xs.take n.toNat = putL k s bl ∧ n = ((putL k s bl).length : Int) := by
  unfold getL at h
  split at h
  · cases h
  · simp only at h
    split at h
    · cases h
    · rename_i h1 h2
      split at h
      · rename_i h3
        simp only [Option.some.injEq, Prod.mk.injEq] at h
        obtain ⟨e1, e2, e3, e4⟩ := h
        rw [e1, e2, e3, e4] at h3
        have hn0 : n ≠ 0 := by rw [← e4]; exact fun e => h2 (.inl e)
        have hle : n ≤ xs.length := by rw [← e4]; exact Int.not_lt.1 fun e => h2 (.inr e)
        have hsz : n = 16 + ((xs.getD 2 0 + xs.getD 3 0 * 256) + 7) / 8 * 8 ∧ 0 ≤ xs.getD 2 0 + xs.getD 3 0 * 256 := by
          unfold sizeZ at e4
          split at e4
          · omega
          · constructor <;> omega
        have hbl : (bl.length : Int) = xs.getD 2 0 + xs.getD 3 0 * 256 := by
          rw [← e3, List.length_take, List.length_drop]
          omega
        have hl := congrArg List.length h3
        rw [List.length_take] at hl
        have hf : fitsR k s bl.length := by
          by_cases hf : fitsR k s bl.length
          · exact hf
          · have hp : putL k s bl = [] := if_neg hf
            rw [hp] at hl
            simp at hl
            omega
        exact ⟨hf, by rw [hbl]; exact e4.symm, by omega, hle, h3.symm, by omega⟩
      · cases h
/-- The epoch that a sector begins with; 0: it is not good. -/
def epochF (zs : List Int) : Int :=
  match getL zs with
  | some (k, s, b, _) => if k = 1 ∧ b.length = 0 then s else 0
  | none => 0
theorem epochF_bd (zs : List Int) : 0 ≤ epochF zs ∧ epochF zs ≤ 4294967295 := by
  unfold epochF
  cases h : getL zs with
  | none => exact ⟨Int.le_refl _, by decide⟩
  | some r =>
    obtain ⟨k, s, b, n⟩ := r
    obtain ⟨⟨-, -, h3, h4, -⟩, -⟩ := get_full h
    simp only
    split <;> omega
set_option maxRecDepth 100000 in
set_option maxHeartbeats 800000 in
theorem jepochof_any (A : Option Addr) (n cap : Nat) (zs : List Int) (w : World) (h : Bs w A n cap zs) (hn : n ≤ 1000000) : Calls Try.prog 56 #[.slice A n cap] w (Pure (.int .i64 (epochF zs)) w) := by
  have H := Lib.hid h
  clear h
  go_enter Try.func56, Try.ntmps56
  go_wp2_with fail
  refine (sget_any A n cap zs w H.out hn).mono ?_
  rintro e w1 ⟨k, s, v, bl, m, ok, rfl, o1, k1, hg⟩
  obtain ⟨A1, c1, rfl, b1, -⟩ := o1.shape
  have l1 := b1.le
  have m1 := b1.max
  have K1 := Lib.hid k1
  clear o1 k1 b1
  cases ok with
  | false =>
    have e0 : Hid (epochF zs = 0) := by
      rcases hg with ⟨h1, -⟩ | ⟨-, h2, -⟩
      · cases h1
      · show epochF zs = 0
        unfold epochF; rw [h2]
    clear hg
    go_wp2
    go_ret
    exact ⟨by rw [e0.out]; rfl, K1.out.alloc _⟩
  | true =>
    have hs : getL zs = some (k, s, bl, m) := by
      rcases hg with ⟨-, h2⟩ | ⟨h1, -⟩
      · exact h2
      · cases h1
    have EE : Hid (epochF zs = if k = 1 ∧ bl.length = 0 then s else 0) := by show _ = _; unfold epochF; rw [hs]
    clear hg hs
    by_cases g1 : k = 1
    · subst g1
      by_cases g2 : bl.length = 0
      · have e1 : decide (0 < (bl.length : Int)) = false := decide_eq_false (by omega)
        have e1n : decide (0 < bl.length) = false := decide_eq_false (by omega)
        have e0 : Hid (epochF zs = s) := EE.out.trans (if_pos ⟨rfl, g2⟩)
        rw [g2]
        clear EE g2 e1 e1n
        go_wp2
        go_ret
        exact ⟨by rw [e0.out]; rfl, K1.out.alloc _⟩
      · have e1 : decide (0 < (bl.length : Int)) = true := decide_eq_true (by omega)
        have e1n : decide (0 < bl.length) = true := decide_eq_true (by omega)
        have e0 : Hid (epochF zs = 0) := EE.out.trans (if_neg (fun h => g2 h.2))
        clear EE g2
        go_wp2
        go_ret
        exact ⟨by rw [e0.out]; rfl, K1.out.alloc _⟩
    · have e1 : (k == 1) = false := by simpa using g1
      have e1n : (k != 1) = true := by simpa using g1
      have e0 : Hid (epochF zs = 0) := EE.out.trans (if_neg (fun h => g1 h.1))
      clear EE
      go_wp2
      go_ret
      exact ⟨by rw [e0.out]; rfl, K1.out.alloc _⟩

/-- The records of a sector from a place on, and where they end. -/
def parseF : Nat → List Int → Nat → List Rec × Nat
  | 0, _, u => ([], u)
  | f + 1, zs, u => match getL (zs.drop u) with
    | some (k, s, b, n) => if k = 1 then ([], u) else (⟨k, s, b⟩ :: (parseF f zs (u + n.toNat)).1, (parseF f zs (u + n.toNat)).2)
    | none => ([], u)
/-- A record is pushed. -/
theorem JAt.push {w0 w w4 : World} {B q : Nat} {X : JX} {s : FS} {j : JS} {v' : Value} {r : RV} (h : JAt w0 B q X s j) (k0 : Keeps None w0 w) (k : Keeps (fun k => X.lv.ownBlock = some k) w w4) (o : OwnR w4 B v' (X.rs ++ [r]))
    (hat : v'.ownBlock = X.lv.ownBlock ∨ ∃ n, v'.ownBlock = some n ∧ w.heap.size ≤ n) (hb : Bs w r.A r.b.length r.c r.b) (hp : ∀ b, r.at_ b → w0.heap.size ≤ b ∧ b < w.heap.size) :
    JStay w0 (w4.setCell ⟨X.jb, 3, none⟩ v') B q X ⟨X.L, X.jb, v', X.rs ++ [r]⟩ s { j with l := j.l ++ [r.r] } := by
  have hw := h.later k0
  have ks := (Keeps.self X.jb w4).put 3 v'
  have nv : ∀ b, X.lv.ownBlock = some b → b < w0.heap.size := fun b hb => (h.l.block hb).2
  have hB0 : B ≤ w0.heap.size := Nat.le_of_lt (Nat.lt_of_le_of_lt h.jB h.c.lt)
  have nd : ∀ b, v'.ownBlock = some b → X.lv.ownBlock = some b ∨ w.heap.size ≤ b := fun b hb => by
    rcases hat with e | ⟨n, e, hn⟩
    · exact .inl (e.symm.trans hb)
    · rw [hb] at e; obtain rfl := Option.some.inj e; exact .inr hn
  have KK : Keeps (fun b => X.lv.ownBlock = some b ∨ b = X.jb) w (w4.setCell ⟨X.jb, 3, none⟩ v') := k.trans ks (fun _ h => .inl h) (fun _ _ h => .inr h)
  have jlv : ¬ X.lv.ownBlock = some X.jb := fun e => (h.lo _ e).2 rfl
  refine ⟨⟨⟨hw.f.keeps KK (fun b hO e => by
      rcases e with e | e
      · exact (h.lo b e).1 hO
      · exact h.jo (e ▸ hO)), h.hq, (k.blk hw.c jlv).set 3 v', o.keeps ks (fun b hb (e : b = X.jb) => by
      rcases nd b hb with h1 | h1
      · exact (h.lo b h1).2 e
      · have := hw.c.lt; omega), ?_, by simp [h.recs], h.jo, h.jB, fun b hb => ?_⟩, ?_, fun x hx => ?_, rfl⟩, rfl, ?_⟩
  · refine Bds.append ⟨fun x hx => (hw.bd.bs x hx).keeps KK (fun b off h0 _ e hb => ?_), fun x hx b hb => ?_⟩ (Bds.one (hb.keeps KK (fun b off h0 _ e hb => ?_)) fun b hb => ?_)
    · have hp := (hw.bd.p x hx b ⟨off, h0, e⟩).1
      rcases hb with hb | hb
      · exact hp.2.2.2 hb
      · exact hp.2.2.1 hb
    · obtain ⟨⟨p1, p2, p3, p4⟩, p5⟩ := h.bd.p x hx b hb
      refine ⟨⟨p1, p2, p3, fun e => ?_⟩, Nat.lt_of_lt_of_le p5 (Nat.le_trans k0.size KK.size)⟩
      rcases nd b e with h1 | h1
      · exact p4 h1
      · have := k0.size; omega
    · have hp := hp b ⟨off, h0, e⟩
      rcases hb with hb | hb
      · have := nv b hb; omega
      · have := h.c.lt; omega
    · have hp := hp b hb
      refine ⟨⟨by omega, fun hO => ?_, fun e => ?_, fun e => ?_⟩, Nat.lt_of_lt_of_le hp.2 KK.size⟩
      · have := h.f.lt b hO; omega
      · have e : b = X.jb := e
        have := h.c.lt; omega
      · rcases nd b e with h1 | h1
        · have := nv b h1; omega
        · omega
  · rcases nd b hb with h1 | h1
    · exact h.lo b h1
    · refine ⟨fun hO => ?_, fun e => ?_⟩
      · have := h.f.lt b hO; have := k0.size; omega
      · have e : b = X.jb := e
        have := h.c.lt; have := k0.size; omega
  · refine k0.trans KK (fun _ h => h.elim) (fun b _ hb => ?_)
    rcases hb with hb | hb
    · exact .inr (.inr (.inl hb))
    · exact .inr (.inl hb)
  · rcases hx with hx | hx | hx | ⟨x', hx', hbx⟩
    · exact .inl (.inl hx)
    · exact .inl (.inr (.inl hx))
    · rcases nd x hx with h1 | h1
      · exact .inl (.inr (.inr (.inl h1)))
      · exact .inr (Nat.le_trans k0.size h1)
    · rcases List.mem_append.1 hx' with h1 | h1
      · exact .inl (.inr (.inr (.inr ⟨x', h1, hbx⟩)))
      · obtain rfl := List.mem_singleton.1 h1
        exact .inr (hp x hbx).1
  · refine k0.trans KK (fun _ h => h.elim) (fun b _ hb => ?_)
    rcases hb with hb | hb
    · exact ⟨.inr (.inr (.inl hb)), (h.lo b hb).1⟩
    · exact ⟨.inr (.inl hb), by rw [hb]; exact h.jo⟩
end Go.Proofs.Ytiiljelhhdklnaa
