
/- The walks of package window. -/
import Derived.Test.YtnanbnaikmaljaaLzPa
namespace Go.Proofs.Ytnanbnaikmaljaa
open Go.RowKit

set_option maxRecDepth 1000000 in
theorem zero_win : Try.zeroCells95 = (List.replicate 4096 (Value.int IntKind.u8 0) ++ [Value.int IntKind.i64 0]).toArray := by kernel_rfl

/-- A window in block b; h: all bytes that were put since it was last cleared. -/
def Win (w : World) (b : Nat) (h : List Int) : Prop :=
  ∃ cs : List Value, Blk w b cs 95 ∧ cs.length = 4097 ∧ cs[4096]? = some (.int .i64 h.length) ∧
    ∀ d : Nat, 1 ≤ d → d ≤ h.length → d ≤ 4096 → cs[(h.length - d) % 4096]? = some (.int .u8 (h.getD (h.length - d) 0))

theorem Win.keeps {w w' : World} {S : Nat → Prop} {b : Nat} {h : List Int} (hw : Win w b h) (hk : Keeps S w w') (hn : ¬ S b) : Win w' b h := by
  obtain ⟨cs, h1, h2⟩ := hw; exact ⟨cs, hk.blk h1 hn, h2⟩
theorem Win.drew {w : World} {b : Nat} {h : List Int} (hw : Win w b h) : Win w.drew b h := hw
theorem Win.drewN {w : World} {b : Nat} {h : List Int} (hw : Win w b h) (n : Nat) : Win (w.drewN n) b h := hw
theorem Win.lt {w : World} {b : Nat} {h : List Int} (hw : Win w b h) : b < w.heap.size := by obtain ⟨cs, h1, _⟩ := hw; exact h1.lt

set_option maxRecDepth 100000 in
set_option maxHeartbeats 400000 in
theorem wnew_any (w : World) : Calls Try.prog 31 #[] w fun e w' => e = .returned (.pointer (some ⟨w.heap.size, 0, none⟩)) ∧ Win w' w.heap.size [] ∧ Keeps None w w' := by
  have fin : Win (w.alloc (.cells Try.zeroCells95 95)) w.heap.size [] := by
    rw [zero_win]
    refine ⟨_, Blk.new _ _ _, ?_, ?_, ?_⟩
    · rw [List.length_append, List.length_replicate]; rfl
    · rw [List.getElem?_append_right (by rw [List.length_replicate]; exact Nat.le_refl _), List.length_replicate]; rfl
    · intro d h1 h2; simp at h2; omega
  go_enter Try.func31, Try.ntmps31
  go_wp2
  go_ret
  exact ⟨rfl, fin, (Keeps.refl _ _).alloc _⟩

theorem win_put {cs : List Value} {h : List Int} (z : Int) (h1 : cs.length = 4097)
    (h3 : ∀ d : Nat, 1 ≤ d → d ≤ h.length → d ≤ 4096 → cs[(h.length - d) % 4096]? = some (.int .u8 (h.getD (h.length - d) 0))) :
    ((cs.set (h.length % 4096) (.int .u8 z)).set 4096 (.int .i64 ((h.length : Int) + 1))).length = 4097 ∧
    ((cs.set (h.length % 4096) (.int .u8 z)).set 4096 (.int .i64 ((h.length : Int) + 1)))[4096]? = some (.int .i64 (h ++ [z]).length) ∧
    ∀ d : Nat, 1 ≤ d → d ≤ (h ++ [z]).length → d ≤ 4096 → ((cs.set (h.length % 4096) (.int .u8 z)).set 4096 (.int .i64 ((h.length : Int) + 1)))[((h ++ [z]).length - d) % 4096]? = some (.int .u8 ((h ++ [z]).getD ((h ++ [z]).length - d) 0)) := by
  refine ⟨by simp [h1], ?_, ?_⟩
  · have e : (h ++ [z]).length = h.length + 1 := by simp
    rw [List.getElem?_set_self (by simp [h1]), e]; rfl
  · intro d d1 d2 d3
    have e : (h ++ [z]).length = h.length + 1 := by simp
    rw [e] at d2 ⊢
    have hm : (h.length + 1 - d) % 4096 < 4096 := Nat.mod_lt _ (by decide)
    rw [List.getElem?_set_ne (by omega)]
    by_cases hd : d = 1
    · subst hd
      have e2 : h.length + 1 - 1 = h.length := by omega
      rw [e2, List.getElem?_set_self (by rw [h1]; have := Nat.mod_lt h.length (show 0 < 4096 by decide); omega)]
      simp
    · have e2 : h.length + 1 - d = h.length - (d - 1) := by omega
      have hne : h.length % 4096 ≠ (h.length - (d - 1)) % 4096 := by omega
      rw [e2, List.getElem?_set_ne hne, h3 (d - 1) (by omega) (by omega) (by omega)]
      congr 2
      simp [List.getD, List.getElem?_append_left (show h.length - (d - 1) < h.length by omega)]

set_option maxRecDepth 100000 in
set_option maxHeartbeats 800000 in
theorem wput_any (b : Nat) (h : List Int) (z : Int) (w : World) (hw : Win w b h) (hl : h.length < 4611686018427387904) :
    Calls Try.prog 50 #[.pointer (some ⟨b, 0, none⟩), .int .u8 z] w fun e w' => e = .returned (.tuple #[]) ∧ Win w' b (h ++ [z]) ∧ Keeps (fun k => k = b) w w' := by
  obtain ⟨cs, hb, h1, h2, h3⟩ := hw
  have c1 := hb.cellD 4096 _ h2
  have hm := Nat.mod_lt h.length (show 0 < 4096 by decide)
  have c2 := hb.cellD (h.length % 4096) _ (List.getElem?_eq_getElem (by omega))
  have c3 := hb.frozen (h.length % 4096)
  have c4 := hb.frozen 4096
  have fin := win_put z h1 h3
  have B2 := (hb.set (h.length % 4096) (.int .u8 z)).set 4096 (.int .i64 ((h.length : Int) + 1))
  have FIN := Lib.hid (show Win _ b (h ++ [z]) from ⟨_, B2, fin⟩)
  generalize cs[h.length % 4096]'(by omega) = old at *
  clear fin B2 h3 h2 hb h1
  have hk : Keeps (fun k => k = b) w ((w.setCell ⟨b, h.length % 4096, none⟩ (.int .u8 z)).setCell ⟨b, 4096, none⟩ (.int .i64 ((h.length : Int) + 1))) := by
    refine Keeps.setCell (Keeps.setCell (Keeps.refl _ w) _ _ ?_) _ _ ?_ <;> intro _ <;> rfl
  have HK := Lib.hid hk
  clear hk
  generalize h.length = n at *
  go_enter Try.func50, Try.ntmps50
  go_wp2
  obtain ⟨mS, mh⟩ : ∃ S : World → Prop, ∀ w', S w' ↔ (w'.cell? ⟨b, 4096, none⟩ = some (.int .i64 n)) := ⟨_, fun _ => Iff.rfl⟩
  have mk0 : ∀ x : Memb mS, x.at_.cell? ⟨b, 4096, none⟩ = some (.int .i64 n) := fun x => ((mh _).1 x.is)
  have mn : Nonempty (Memb mS) := ⟨⟨(w).drew, (mh _).2 (c1)⟩⟩
  have mH := Lib.hid mh
  clear mh
  refine wp_region_mix [10] (InS mS) (by kernel_rfl) (by kernel_rfl) (InS.mk ((mH.out _).2 (c1))) ?_
  refine wpMix_seg 10 (by kernel_rfl) (by decide) ?_
  simp only [List.take_succ_cons, List.take_zero, List.drop_succ_cons, List.drop_zero]
  repeat (go_big_quiet_step (fail))
  refine wpQuiet_nil ?_
  refine wpMix_eff (by kernel_rfl) ?_
  go_wp2
  refine MixK.last (by kernel_rfl) ?_
  refine wpMix_nil ?_
  clear mk0 mn mH
  go_wp2
  go_end0
  exact ⟨rfl, FIN.out.drew, HK.out.drew⟩

set_option maxHeartbeats 400000 in
theorem wlen_any (b : Nat) (h : List Int) (w : World) (hw : Win w b h) :
    Calls Try.prog 68 #[.pointer (some ⟨b, 0, none⟩)] w fun e w' => e = .returned (.int .i64 h.length) ∧ w = w' := by
  obtain ⟨cs, hb, h1, h2, h3⟩ := hw
  have c1 := hb.cellD 4096 _ h2
  clear h1 h2 h3 hb
  go_enter Try.func68, Try.ntmps68
  go_wp2
  go_ret
  exact ⟨rfl, rfl⟩


set_option maxHeartbeats 400000 in
theorem wkept_any (b : Nat) (h : List Int) (w : World) (hw : Win w b h) :
    Calls Try.prog 60 #[.pointer (some ⟨b, 0, none⟩)] w fun e w' => e = .returned (.int .i64 (min (h.length : Int) 4096)) ∧ w = w' := by
  go_enter Try.func60, Try.ntmps60
  go_wp2_with (go_at_call 68; refine (wlen_any b h _ hw).mono ?_; rintro e w' ⟨rfl, rfl⟩)
  all_goals (go_ret; refine ⟨ret_int ?_, rfl⟩; omega)

/-- What Back tells. -/
def backOk (h : List Int) (d : Int) : Bool := decide (1 ≤ d ∧ d ≤ min (h.length : Int) 4096)
def backV (h : List Int) (d : Int) : Int := if 1 ≤ d ∧ d ≤ min (h.length : Int) 4096 then h.getD (h.length - d.toNat) 0 else 0

set_option maxRecDepth 100000 in
set_option maxHeartbeats 800000 in
theorem wback_any (b : Nat) (h : List Int) (d : Int) (w : World) (hw : Win w b h) (hl : h.length < 4611686018427387904) :
    Calls Try.prog 49 #[.pointer (some ⟨b, 0, none⟩), .int .i64 d] w fun e w' => e = .returned (.tuple #[.int .u8 (backV h d), .bool (backOk h d)]) ∧ ∃ n, w' = w.drewN n := by
  by_cases hd : 1 ≤ d
  · have hd1 : decide (d < 1) = false := by simpa using hd
    have HK := Lib.hid (wkept_any b h w hw)
    by_cases hd2 : d ≤ min (h.length : Int) 4096
    · have hok : backOk h d = true := by simp [backOk, hd]; omega
      have hv : backV h d = h.getD (h.length - d.toNat) 0 := by simp only [backV]; rw [if_pos ⟨hd, hd2⟩]
      rw [hok, hv]
      obtain ⟨cs, hb, h1, h2, h3⟩ := hw
      have c1 := hb.cellD 4096 _ h2
      have c2 := hb.cellD _ _ (h3 d.toNat (by omega) (by omega) (by omega))
      clear hok hv h1 h2 h3 hb
      obtain ⟨e, rfl⟩ := Int.eq_ofNat_of_zero_le (show 0 ≤ d by omega)
      rw [Int.toNat_natCast] at *
      generalize h.getD (h.length - e) 0 = z at *
      have e1 : (min (h.length : Int) 4096) ≤ h.length := by omega
      have e2 : (min (h.length : Int) 4096) ≤ 4096 := by omega
      generalize min (h.length : Int) 4096 = mn at *
      generalize h.length = n at *
      have e3 : 1 ≤ e := by omega
      have e4 : e ≤ n := by omega
      go_enter Try.func49, Try.ntmps49
      go_wp2_with (go_at_call 60; refine HK.out.mono ?_; rintro e w' ⟨rfl, rfl⟩)
      go_quiet (fail)
      go_wp2
      go_ret2
      exact ⟨rfl, _, rfl⟩
    · have hok : backOk h d = false := by simp [backOk]; omega
      have hv : backV h d = 0 := by simp only [backV]; rw [if_neg (by omega)]
      rw [hok, hv]
      clear hok hv hw
      generalize min (h.length : Int) 4096 = mn at *
      go_enter Try.func49, Try.ntmps49
      go_wp2_with (go_at_call 60; refine HK.out.mono ?_; rintro e w' ⟨rfl, rfl⟩)
      go_ret2
      exact ⟨rfl, 0, rfl⟩
  · have hd1 : decide (d < 1) = true := by simpa using hd
    have hok : backOk h d = false := by simp [backOk]; omega
    have hv : backV h d = 0 := by simp only [backV]; rw [if_neg (by omega)]
    rw [hok, hv]
    clear hok hv hw hd
    go_enter Try.func49, Try.ntmps49
    go_wp2
    go_ret2
    exact ⟨rfl, 0, rfl⟩

theorem wback_yes (b : Nat) (h : List Int) (e : Nat) (v : Int) (w : World) (hw : Win w b h) (hl : h.length < 4611686018427387904) (h1 : 1 ≤ e) (h2 : e ≤ h.length) (h3 : e ≤ 4096) (hv : h.getD (h.length - e) 0 = v) :
    Calls Try.prog 49 #[.pointer (some ⟨b, 0, none⟩), .int .i64 e] w fun e w' => e = .returned (.tuple #[.int .u8 v, .bool true]) ∧ ∃ n, w' = w.drewN n := by
  have := wback_any b h e w hw hl
  have e1 : backOk h e = true := by simp [backOk]; omega
  have e2 : backV h e = v := by rw [← hv]; simp only [backV]; rw [if_pos (by omega)]; rfl
  rwa [e1, e2] at this
theorem wback_no (b : Nat) (h : List Int) (d : Int) (w : World) (hw : Win w b h) (hl : h.length < 4611686018427387904) (hd : d < 1 ∨ min (h.length : Int) 4096 < d) :
    Calls Try.prog 49 #[.pointer (some ⟨b, 0, none⟩), .int .i64 d] w fun e w' => e = .returned (.tuple #[.int .u8 0, .bool false]) ∧ ∃ n, w' = w.drewN n := by
  have := wback_any b h d w hw hl
  have e1 : backOk h d = false := by simp [backOk]; omega
  have e2 : backV h d = 0 := by simp only [backV]; rw [if_neg (by omega)]
  rwa [e1, e2] at this
end Go.Proofs.Ytnanbnaikmaljaa
