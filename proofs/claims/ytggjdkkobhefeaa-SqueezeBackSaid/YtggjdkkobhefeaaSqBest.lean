/-
  For every row of bytes, every place and every distance, the law SqueezeBest returns true: what Best tells is there, no other distance does better, and none that is nearer as well. No condition.
-/
import Derived.Test.YtggjdkkobhefeaaSq2
import Derived.Test.YtggjdkkobhefeaaFrame
import Derived.Lib.SlBytesConst
namespace Go.Proofs.Ytggjdkkobhefeaa
open Go.RowKit Go.ChangeShapes Go.WideShapes Go.ChangeAt

instance (zs : List Int) (a d k : Nat) : Decidable (run zs a d k) := inferInstanceAs (Decidable (∀ i, i < k → zs.getD (a + i) 0 = zs.getD (a + i - d) 0))

theorem Bs.lit (w : World) (b : Nat) (hb : b = w.heap.size) (zs : List Int) (T : TypeId) (fr : Nat × Nat) (hz : ∀ z ∈ zs, 0 ≤ z ∧ z ≤ 255) (hl : zs.length ≤ 1000000) : Bs (w.alloc (.cells (zs.map (Value.int .u8)).toArray T fr)) (some ⟨b, 0, none⟩) zs.length zs.length zs := by
  subst hb
  exact ⟨rfl, Nat.le_refl _, by omega, (fun e => by cases e), hz, fun _ => ⟨w.heap.size, 0, rfl, by simp, fun i hi => by
    rw [Nat.zero_add]
    have := (Blk.new w (zs.map (Value.int .u8)) T).cellD i _ (map_getD 0 hi)
    rw [← this]
    have e : ∀ o, (w.alloc o).heap[w.heap.size]? = some o := fun o => by
      show (w.heap.push o)[w.heap.size]? = _
      simp
    simp only [World.cell?, e]⟩⟩

def abc : List Int := [97, 98, 99, 97, 98, 99]
theorem abc0 : BestOf abc 0 0 0 := ⟨by decide, by decide, by decide, fun _ d' h1 h2 => by omega, fun d' h1 h2 => by omega⟩
theorem abc1 : BestOf abc 1 0 0 := ⟨by decide, by decide, by decide, fun _ d' h1 h2 _ _ => by
    have e : d' = 1 := by omega
    subst e; decide, fun d' h1 h2 => by omega⟩
theorem abc2 : BestOf abc 2 0 0 := ⟨by decide, by decide, by decide, fun _ d' h1 h2 _ _ => by
    obtain rfl | rfl : d' = 1 ∨ d' = 2 := by omega
    · decide
    · decide, fun d' h1 h2 => by omega⟩
theorem abc3 : BestOf abc 3 3 3 := ⟨by decide, by decide, fun _ => ⟨by decide, by decide, by decide, by decide, by decide⟩, fun h => absurd h (by decide), fun d' h1 h2 => by
    obtain rfl | rfl : d' = 1 ∨ d' = 2 := by omega
    · decide
    · decide⟩
theorem abc_to {ts : List Tok} {a : Nat} (h : TokTo abc ts a) : (a = 0 ∧ ts = []) ∨ (a = 1 ∧ ts = [⟨0, 0, 97⟩]) ∨ (a = 2 ∧ ts = [⟨0, 0, 97⟩, ⟨0, 0, 98⟩]) ∨ (a = 3 ∧ ts = [⟨0, 0, 97⟩, ⟨0, 0, 98⟩, ⟨0, 0, 99⟩]) ∨ (a = 6 ∧ ts = [⟨0, 0, 97⟩, ⟨0, 0, 98⟩, ⟨0, 0, 99⟩, ⟨3, 3, 0⟩]) := by
  induction h with
  | start => exact .inl ⟨rfl, rfl⟩
  | step h hl hb ih =>
    rcases ih with ⟨rfl, rfl⟩ | ⟨rfl, rfl⟩ | ⟨rfl, rfl⟩ | ⟨rfl, rfl⟩ | ⟨rfl, rfl⟩
    · obtain ⟨rfl, rfl⟩ := hb.uniq abc0; exact .inr (.inl ⟨rfl, rfl⟩)
    · obtain ⟨rfl, rfl⟩ := hb.uniq abc1; exact .inr (.inr (.inl ⟨rfl, rfl⟩))
    · obtain ⟨rfl, rfl⟩ := hb.uniq abc2; exact .inr (.inr (.inr (.inl ⟨rfl, rfl⟩)))
    · obtain ⟨rfl, rfl⟩ := hb.uniq abc3; exact .inr (.inr (.inr (.inr ⟨rfl, rfl⟩)))
    · exact absurd hl (by decide)

set_option maxRecDepth 100000 in
set_option maxHeartbeats 1600000 in
theorem alive21_any (w : World) : Calls Try.prog 33 #[] w fun e w' => e = .returned (.bool true) ∧ Keeps None w w' := by
  have hc : (convert 32 32 (.slice (some ⟨w.heap.size, 0, none⟩) 6 6)).run Try.prog (w.alloc (.cells #[.int .u8 97, .int .u8 98, .int .u8 99, .int .u8 97, .int .u8 98, .int .u8 99] 5)) = .ok (.slice (some ⟨w.heap.size, 0, none⟩) 6 6) (w.alloc (.cells #[.int .u8 97, .int .u8 98, .int .u8 99, .int .u8 97, .int .u8 98, .int .u8 99] 5 (6, 7))) :=
    Lib.run_convert_bytes_const (P := Try.prog) w 32 5 _ 6 6 Try.underlying32 Try.underlying5
  go_enter Try.func33, Try.ntmps33
  go_wp2_with fail
  clear hc
  refine (qtokens_any _ _ _ abc _ (Bs.lit w _ rfl abc 5 (6, 7) (by decide) (by decide)) (by decide)).mono ?_
  rintro e w1 ⟨v, ts, rfl, ht, ho, hk⟩
  have e1 : ts = [⟨0, 0, 97⟩, ⟨0, 0, 98⟩, ⟨0, 0, 99⟩, ⟨3, 3, 0⟩] := by
    rcases abc_to ht with ⟨e, _⟩ | ⟨e, _⟩ | ⟨e, _⟩ | ⟨e, _⟩ | ⟨_, e⟩
    · exact absurd e (by decide)
    · exact absurd e (by decide)
    · exact absurd e (by decide)
    · exact absurd e (by decide)
    · exact e
  subst e1
  rcases ho.2 with ⟨-, h0⟩ | ⟨g, cap, cur, rfl, hb, hg, hn, hm, hs, htk⟩
  · exact absurd h0 (by decide)
  have x9 := ho.cells (g := g) rfl 9 (.int .i64 3) rfl
  have x10 := ho.cells (g := g) rfl 10 (.int .i64 3) rfl
  have x11 := ho.cells (g := g) rfl 11 (.int .u8 0) rfl
  have f9 : (⟨g, 0, none⟩ : Addr).add 9 = ⟨g, 9, none⟩ := by unfold Addr.add; simp
  have f10 : (⟨g, 0, none⟩ : Addr).add 10 = ⟨g, 10, none⟩ := by unfold Addr.add; simp
  have f11 : (⟨g, 0, none⟩ : Addr).add 11 = ⟨g, 11, none⟩ := by unfold Addr.add; simp
  rw [f9] at x9
  rw [f10] at x10
  rw [f11] at x11
  have hn4 : 4 ≤ cap := hn
  have HK := Lib.hid (((Keeps.refl None w).alloc _).trans hk (T := None) (fun _ h => h) (fun _ _ h => h))
  clear ho hs htk hg hm hk hb f9 f10 f11 ht hn
  simp only [List.length_cons, List.length_nil, Nat.zero_add, Nat.reduceAdd]
  go_wp2
  go_ret
  exact ⟨rfl, HK.out⟩

end Go.Proofs.Ytggjdkkobhefeaa
