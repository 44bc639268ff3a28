/- The walk of the decoder's laws' fill. -/
import Derived.Test.YteokbedjcnfgiaaDecMath
import Derived.Test.YteokbedjcnfgiaaDecPlays
import Derived.Test.YteokbedjcnfgiaaBytes2
import Derived.Deep.LoopGhost
namespace Go.Proofs.Yteokbedjcnfgiaa
open Go.RowKit

theorem dEat_snoc (s : DSt) (zs : List Int) (i : Nat) (hi : i < zs.length) : dEat s (zs.take (i + 1)) = dByteS (dEat s (zs.take i)) (zs.getD i 0) := by
  unfold dEat
  rw [← take_snoc zs i hi, List.foldl_append, getD_get 0 hi]; rfl
theorem dEat_n (s : DSt) (zs : List Int) (i : Nat) (hi : i ≤ zs.length) (hn : (i : Int) ≤ s.n) : (dEat s (zs.take i)).n = s.n - i := by
  induction i with
  | zero => simp [dEat]
  | succ i ih =>
    have h := ih (by omega) (by omega)
    rw [dEat_snoc s zs i (by omega)]
    unfold dByteS
    rw [if_pos (by omega)]
    show (dEat s (zs.take i)).n - 1 = _
    omega
theorem dEat_inv (s : DSt) (zs : List Int) (hz : ∀ z ∈ zs, 0 ≤ z ∧ z ≤ 255) (h : DInv s) : DInv (dEat s zs) := by
  induction zs generalizing s with
  | nil => exact h
  | cons z zs ih => exact ih _ (fun y hy => hz y (List.mem_cons_of_mem _ hy)) (h.byte z (hz z List.mem_cons_self))
/-- A slice that does not lie in block b. -/
def NB (A : Option Addr) (b : Nat) : Prop := ∀ b' off, A = some ⟨b', off, none⟩ → b' ≠ b

/-- A slice that lies where another one lies. -/
def SB (A A' : Option Addr) : Prop := ∀ b' off', A' = some ⟨b', off', none⟩ → ∃ off, A = some ⟨b', off, none⟩
theorem SB.refl (A : Option Addr) : SB A A := fun _ off h => ⟨off, h⟩
theorem SB.trans {A A' A'' : Option Addr} (h : SB A A') (k : SB A' A'') : SB A A'' := fun b o e => by obtain ⟨o2, e2⟩ := k b o e; exact h b o2 e2
theorem NB.of {A A' : Option Addr} {b : Nat} (h : NB A b) (k : SB A A') : NB A' b := fun b' o e => by obtain ⟨o2, e2⟩ := k b' o e; exact h b' o2 e2
set_option maxRecDepth 100000 in
set_option maxHeartbeats 1600000 in
theorem dfill_any (b : Nat) (A : Option Addr) (n cap : Nat) (zs : List Int) (s : DSt) (w : World) (h : Bs w A n cap zs) (hd : DAt w b 90 s) (hi : DInv s) (hb : 0 < n → NB A b) (J : Nat) (hJ : J = min s.n.toNat n) :
    Calls Try.prog 54 #[.pointer (some ⟨b, 0, none⟩), .slice A n cap] w fun e w' => ∃ A' n' c', e = .returned (.slice A' n' c') ∧ n' + J = n ∧ Bs w' A' n' c' (zs.drop J) ∧ SB A A' ∧ DAt w' b 90 (dEat s (zs.take J)) ∧ Keeps (fun k => k = b) w w' := by
  have hle := h.le
  have hmx := h.max
  have HL := Lib.hid h.len
  have HBY := Lib.hid h.byte
  have HI := Lib.hid hi
  have sn := hi.n0
  have JN : Hid (J = min s.n.toNat n) := hJ
  have START := Lib.hid (show Bs w A n cap (zs.drop 0) ∧ SB A A ∧ DAt w b 90 (dEat s (zs.take 0)) from ⟨h, SB.refl A, hd⟩)
  have NA := Lib.hid hb
  clear h hd hb hi hJ
  go_enter Try.func54, Try.ntmps54
  go_wp2
  go_loopg [1] J (fun g v wr => ∃ (i : Nat) (A' : Option Addr) (n' c' : Nat), i + g = J ∧ n' + i = n ∧ v = .slice A' n' c' ∧ Bs wr A' n' c' (zs.drop i) ∧ SB A A' ∧ DAt wr b 90 (dEat s (zs.take i)) ∧ Keeps (fun k => k = b) w wr)
  case atStart => exact ⟨0, A, n, cap, by omega, by omega, rfl, START.out.1, START.out.2.1, START.out.2.2, Keeps.refl _ _⟩
  case round =>
    obtain ⟨i, A', n', c', hig, hni, rfl, hB, hSB, hD, hK⟩ := hrel
    have HSB := Lib.hid hSB
    clear hSB
    have hle' := hB.le
    have hmx' := hB.max
    have hJ := JN.out
    have len := HL.out
    have en := dEat_n s zs i (by omega) (by omega)
    have inv := dEat_inv s (zs.take i) (fun z hz => HBY.out z (List.mem_of_mem_take hz)) HI.out
    have ND := Lib.hid (dneed_any b (dEat s (zs.take i)) wr hD)
    by_cases hlt : i < J
    · obtain ⟨G, rfl⟩ : ∃ G, gk = G + 1 := ⟨gk - 1, by omega⟩
      obtain ⟨bl, off, z, rfl, hz, hza, hzb, hc⟩ := hB.get (i := 0) (by omega)
      replace hc : wr.cell? ⟨bl, off, none⟩ = some (.int .u8 z) := hc
      have BY := Lib.hid (dbyte_any b (dEat s (zs.take i)) z wr hD inv ⟨hza, hzb⟩)
      have ez : zs.getD i 0 = z := by rw [← hz]; simp [List.getD, List.getElem?_drop]
      have SN := Lib.hid (dEat_snoc s zs i (by omega))
      rw [ez] at SN
      rw [← SN.out] at BY
      have nb : dNeedB (dEat s (zs.take i)) = true := by unfold dNeedB; exact decide_eq_true (by omega)
      rw [nb] at ND BY
      have DR := Lib.hid (hB.dropIf (k := 1) (by omega))
      have HNB := Lib.hid ((NA.out (by omega)).of HSB.out)
      have HK := Lib.hid hK
      have n0 : 0 < n' := by omega
      have n1 : decide (0 < (n' : Int)) = true := decide_eq_true (by omega)
      rw [List.drop_drop] at DR
      clear hz ez SN en inv nb hB hD hK hJ
      generalize dEat s (zs.take i) = s1 at *
      go_wp2_with fail
      refine ND.out.mono ?_
      rintro e w' ⟨rfl, rfl⟩
      go_wp2_with fail
      refine BY.out.mono ?_
      rintro e w4 ⟨rfl, d4, k4⟩
      have D4 := Lib.hid d4
      have B4 := Lib.hid (DR.out.keeps k4 (fun b' off' _ _ e h => by split at e <;> (cases e; exact HNB.out _ _ rfl h)))
      have K4 := Lib.hid (HK.out.trans k4 (fun _ h => h) (fun _ _ h => h))
      clear d4 k4 BY DR HK ND hc
      by_cases c1 : c' = 1
      · rw [if_pos c1] at B4
        have SB4 := HSB
        subst c1
        obtain rfl : n' = 1 := by omega
        go_wp2
        go_roundg G
        case measure => omega
        case rel => exact ⟨i + 1, _, 0, 0, by omega, by omega, rfl, B4.out, SB4.out, D4.out, K4.out⟩
      · rw [if_neg c1] at B4
        have SB4 := Lib.hid (show SB A (some ⟨bl, off + 1, none⟩) from fun b' off' e => by cases e; exact HSB.out _ _ rfl)
        go_wp2
        go_roundg G
        case measure => omega
        case rel => exact ⟨i + 1, _, n' - 1, c' - 1, by omega, by omega, rfl, B4.out, SB4.out, D4.out, K4.out⟩
    · obtain rfl : i = J := by omega
      have HB := Lib.hid hB
      have HD := Lib.hid hD
      have HK := Lib.hid hK
      by_cases hn : s.n - i = 0
      · have nb : dNeedB (dEat s (zs.take i)) = false := by unfold dNeedB; exact decide_eq_false (by omega)
        rw [nb] at ND
        clear hB hD hK en inv nb
        go_wp2_with fail
        refine ND.out.mono ?_
        rintro e w' ⟨rfl, rfl⟩
        go_wp2
        go_ret
        exact ⟨A', n', c', rfl, by omega, HB.out, HSB.out, HD.out, HK.out⟩
      · have nb : dNeedB (dEat s (zs.take i)) = true := by unfold dNeedB; exact decide_eq_true (by omega)
        rw [nb] at ND
        obtain rfl : n' = 0 := by omega
        clear hB hD hK en inv nb
        go_wp2_with fail
        refine ND.out.mono ?_
        rintro e w' ⟨rfl, rfl⟩
        go_wp2
        go_ret
        exact ⟨A', 0, c', rfl, by omega, HB.out, HSB.out, HD.out, HK.out⟩
end Go.Proofs.Yteokbedjcnfgiaa
