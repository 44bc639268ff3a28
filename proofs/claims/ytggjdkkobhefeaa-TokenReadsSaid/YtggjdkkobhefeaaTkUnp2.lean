/- token.Unpack. -/
import Derived.Test.YtggjdkkobhefeaaTkUnp
import Derived.Test.YtggjdkkobhefeaaTkPack2
import Derived.Test.YtggjdkkobhefeaaSealGet
namespace Go.Proofs.Ytggjdkkobhefeaa
open Go.RowKit

def unpF (zs : List Int) (plain : Int) : List Tok × Int :=
  if plain < 0 ∨ 8192 < plain then ([], 1) else
  match readP zs plain.toNat with
  | none => ([], 11)
  | some l => if packL l = zs then (l, 0) else ([], 11)
def Unpacked (w : World) (r : List Tok × Int) (e : Ending) (w' : World) : Prop :=
  ∃ v, e = .returned (.tuple #[v, .int .i64 r.2]) ∧ OwnT w' w.heap.size v r.1 ∧ (∀ t ∈ r.1, TokWf t) ∧ Keeps None w w'
set_option maxRecDepth 100000 in
set_option maxHeartbeats 1600000 in
theorem tkunpack_any (A : Option Addr) (n cap : Nat) (plain : Int) (zs : List Int) (W : World) (h : Bs W A n cap zs) :
    Calls Try.prog 24 #[.slice A n cap, .int .i64 plain] W (Unpacked W (unpF zs plain)) := by
  have hle := h.le
  have hmx := h.max
  have HB := Lib.hid h
  clear h
  by_cases g1 : plain < 0
  · have d1 : decide (plain < 0) = true := decide_eq_true g1
    have RES : Hid (unpF zs plain = ([], 1)) := if_pos (.inl g1)
    go_enter Try.func24, Try.ntmps24
    go_wp2
    go_ret2
    exact ⟨_, by rw [RES.out]; rfl, by rw [RES.out]; exact OwnT.nil _ _, by rw [RES.out]; simp, Keeps.refl _ _⟩
  have d1 : decide (plain < 0) = false := decide_eq_false g1
  by_cases g2 : 8192 < plain
  · have d2 : decide (8192 < plain) = true := decide_eq_true g2
    have RES : Hid (unpF zs plain = ([], 1)) := if_pos (.inr g2)
    go_enter Try.func24, Try.ntmps24
    go_wp2
    go_ret2
    exact ⟨_, by rw [RES.out]; rfl, by rw [RES.out]; exact OwnT.nil _ _, by rw [RES.out]; simp, Keeps.refl _ _⟩
  have d2 : decide (8192 < plain) = false := decide_eq_false g2
  obtain ⟨p, rfl⟩ : ∃ p : Nat, plain = p := ⟨plain.toNat, by omega⟩
  have RD := Lib.hid (tkread_any A n cap p zs W HB.out (by omega))
  have RU : Hid (unpF zs p = match readP zs p with
    | none => ([], 11)
    | some l => if packL l = zs then (l, 0) else ([], 11)) := by show _ = _; unfold unpF; rw [if_neg (by omega), Int.toNat_natCast]
  go_enter Try.func24, Try.ntmps24
  cases hr : readP zs p with
  | none =>
    have RES : Hid (unpF zs p = ([], 11)) := by show _ = _; rw [RU.out, hr]
    rw [hr] at RD
    clear hr RU
    go_wp2_with fail
    refine RD.out.mono ?_
    rintro e w2 ⟨v2, he, -, -, k2⟩
    have he : e = .returned (.tuple #[v2, .bool false]) := he
    subst he
    go_wp2
    go_ret2
    exact ⟨_, by rw [RES.out]; rfl, by rw [RES.out]; exact OwnT.nil _ _, by rw [RES.out]; simp, k2⟩
  | some l =>
    have RE2 : Hid (unpF zs p = if packL l = zs then (l, 0) else ([], 11)) := by show _ = _; rw [RU.out, hr]
    rw [hr] at RD
    clear hr RU
    go_wp2_with fail
    refine RD.out.mono ?_
    rintro e w2 ⟨v2, he, o2, wf2, k2⟩
    have he : e = .returned (.tuple #[v2, .bool true]) := he
    have o2 : OwnT w2 W.heap.size v2 l := o2
    have wf2 : ∀ t ∈ l, TokWf t := wf2
    subst he
    obtain ⟨A2, c2, rfl, t2, -⟩ := o2.shape wf2
    have T2 := Lib.hid t2
    have O2 := Lib.hid o2
    have WF := Lib.hid wf2
    have K2 := Lib.hid k2
    clear RD o2 wf2 k2 t2
    go_wp2_with fail
    refine (tkpack_any A2 _ c2 _ _ T2.out).mono ?_
    rintro e w3 ⟨v3, rfl, o3, k3⟩
    obtain ⟨A3, c3, rfl, b3, -⟩ := o3.shape
    have K3 := Lib.hid (K2.out.trans k3 (T := None) (fun _ h => h) (fun _ _ h => h))
    have B3 := Lib.hid b3
    have BB := Lib.hid (HB.out.keeps K3.out (fun _ _ _ _ _ h => h))
    have O3 := Lib.hid (O2.out.keeps k3 (fun _ _ h => h))
    clear o3 k3 b3 O2 T2 K2
    obtain ⟨ll, hll⟩ : ∃ x, l.length = x := ⟨_, rfl⟩
    rw [hll] at O3
    have EQ := Lib.hid (bequal_any A3 A _ n c3 cap _ zs w3 B3.out BB.out)
    obtain ⟨lp, hlp⟩ : ∃ x, (packL l).length = x := ⟨_, rfl⟩
    rw [hlp] at EQ B3 ⊢
    clear hlp
    by_cases hq : packL l = zs
    · have RES : Hid (unpF zs p = (l, 0)) := by show _ = _; rw [RE2.out, if_pos hq]
      rw [decide_eq_true hq] at EQ
      clear hq RE2
      go_wp2_with fail
      refine EQ.out.mono ?_
      rintro e w4 ⟨rfl, rfl⟩
      go_wp2
      go_ret2
      exact ⟨_, by rw [RES.out]; rfl, by rw [RES.out]; exact O3.out, by rw [RES.out]; exact WF.out, K3.out⟩
    · have RES : Hid (unpF zs p = ([], 11)) := by show _ = _; rw [RE2.out, if_neg hq]
      rw [decide_eq_false hq] at EQ
      clear hq RE2
      go_wp2_with fail
      refine EQ.out.mono ?_
      rintro e w4 ⟨rfl, rfl⟩
      go_wp2
      go_ret2
      exact ⟨_, by rw [RES.out]; rfl, by rw [RES.out]; exact OwnT.nil _ _, by rw [RES.out]; simp, K3.out⟩

theorem readN_right (plain : Nat) (hp : plain ≤ 8192) : ∀ (f : Nat) (s : RdS) (d : DSt) (zs : List Int) (md : Nat) (out l : List Tok), readN plain f s d zs md out = some l → rightB out 0 = true → madeT out 0 = md → md ≤ plain → rightB l 0 = true ∧ madeT l 0 = plain
  | 0, _, _, _, _, _, _, h, _, _, _ => by cases h
  | f + 1, s, d, zs, md, out, l, h, h1, h2, h3 => by
    unfold readN at h
    split at h
    · cases h
    split at h
    · rename_i hm
      cases h
      exact ⟨h1, by rw [h2, hm]⟩
    split at h
    · split at h
      · rename_i hm
        obtain ⟨m1, m2⟩ := hm
        obtain ⟨p1, p2⟩ := longT_pos m1
        refine readN_right plain hp f _ _ _ _ _ l h ?_ ?_ (by omega)
        · rw [rightB_append, h1, h2]
          unfold rightB
          rw [m1, decide_eq_true (by omega)]
          rfl
        · rw [madeT_append, h2]
          show (md : Int) + longT _ = _
          omega
      · cases h
    · exact readN_right plain hp f _ _ _ _ _ l h h1 h2 h3
theorem unpF_ok {zs : List Int} {plain : Int} {l : List Tok} (h : unpF zs plain = (l, 0)) : 0 ≤ plain ∧ plain ≤ 8192 ∧ rightB l 0 = true ∧ packL l = zs ∧ ((plainL l).length : Int) = plain := by
  unfold unpF at h
  split at h
  · cases h
  rename_i hp
  split at h
  · cases h
  rename_i l' hr
  split at h
  · rename_i hk
    have e : l' = l := congrArg Prod.fst h
    subst e
    have hq := readN_right plain.toNat (by omega) _ _ _ _ _ _ _ hr rfl rfl (Nat.zero_le _)
    refine ⟨by omega, by omega, hq.1, hk, ?_⟩
    rw [right_out hq.1]
    have := plainT_len l' [] 0 hq.1 rfl
    rw [this, hq.2]
    omega
  · cases h
theorem unpF_cases (zs : List Int) (plain : Int) : (unpF zs plain = ([], 1) ∧ (plain < 0 ∨ 8192 < plain)) ∨ (unpF zs plain = ([], 11) ∧ 0 ≤ plain ∧ plain ≤ 8192) ∨ (∃ l, unpF zs plain = (l, 0) ∧ 0 ≤ plain ∧ plain ≤ 8192) := by
  unfold unpF
  split
  · rename_i h; exact .inl ⟨rfl, h⟩
  rename_i hp
  have h0 : 0 ≤ plain ∧ plain ≤ 8192 := by omega
  split
  · exact .inr (.inl ⟨rfl, h0⟩)
  split
  · exact .inr (.inr ⟨_, rfl, h0⟩)
  · exact .inr (.inl ⟨rfl, h0⟩)
end Go.Proofs.Ytggjdkkobhefeaa
