/- token.feed and NewReader. -/
import Derived.Test.YtggjdkkobhefeaaTkRead3
import Derived.Test.YtggjdkkobhefeaaDecFill
import Derived.Deep.LoopGhost
namespace Go.Proofs.Ytggjdkkobhefeaa
open Go.RowKit

/-- Are there as many bytes as the decoder needs, and may a coder have made them? -/
def fedB (d : DSt) (zs : List Int) : Bool := decide (d.n ≤ zs.length) && !dLostB (dEat d (zs.take d.n.toNat))
def Fed (w : World) (b : Nat) (A : Option Addr) (zs : List Int) (s : DSt) (e : Ending) (w' : World) : Prop :=
  ∃ A' n' c', e = .returned (.tuple #[.slice A' n' c', .bool (fedB s zs)]) ∧ Keeps (fun k => k = b) w w' ∧ (fedB s zs = true → n' ≤ zs.length ∧ Bs w' A' n' c' (zs.drop s.n.toNat) ∧ SB A A' ∧ DAt w' b 120 (dEat s (zs.take s.n.toNat)))
set_option maxRecDepth 100000 in
set_option maxHeartbeats 1600000 in
theorem tkfeed_any (b : Nat) (A : Option Addr) (n cap : Nat) (zs : List Int) (s : DSt) (w : World) (h : Bs w A n cap zs) (hd : DAt w b 120 s) (hi : DInv s) (hb : 0 < n → NB A b) :
    Calls Try.prog 89 #[.pointer (some ⟨b, 0, none⟩), .slice A n cap] w (Fed w b A zs s) := by
  obtain ⟨J, hJ⟩ : ∃ J, min s.n.toNat n = J := ⟨_, rfl⟩
  have hle := h.le
  have hmx := h.max
  have HL := Lib.hid h.len
  have HBY := Lib.hid h.byte
  have HI := Lib.hid hi
  have sn := hi.n0
  have JN : Hid (J = min s.n.toNat n) := hJ.symm
  have START := Lib.hid (show Bs w A n cap (zs.drop 0) ∧ SB A A ∧ DAt w b 120 (dEat s (zs.take 0)) from ⟨h, SB.refl A, hd⟩)
  have NA := Lib.hid hb
  clear h hd hb hi hJ
  go_enter Try.func89, Try.ntmps89
  go_wp2
  go_loopg [1] J (fun g v wr => ∃ (i : Nat) (A' : Option Addr) (n' c' : Nat), i + g = J ∧ n' + i = n ∧ v = .slice A' n' c' ∧ Bs wr A' n' c' (zs.drop i) ∧ SB A A' ∧ DAt wr b 120 (dEat s (zs.take i)) ∧ Keeps (fun k => k = b) w wr)
  case atStart => exact ⟨0, A, n, cap, by omega, by omega, rfl, START.out.1, START.out.2.1, START.out.2.2, Keeps.refl _ _⟩
  case round =>
    obtain ⟨i, A', n', c', hig, hni, rfl, hB, hSB, hD, hK⟩ := hrel
    have HSB := Lib.hid hSB
    clear hSB
    have hle' := hB.le
    have hmx' := hB.max
    have hJ := JN.out
    have len := HL.out
    have en := dEat_n s zs i (by omega) (by omega)
    have inv := dEat_inv s (zs.take i) (fun z hz => HBY.out z (List.mem_of_mem_take hz)) HI.out
    have ND := Lib.hid (dneed_any b (dEat s (zs.take i)) wr hD)
    by_cases hlt : i < J
    · obtain ⟨G, rfl⟩ : ∃ G, gk = G + 1 := ⟨gk - 1, by omega⟩
      obtain ⟨bl, off, z, rfl, hz, hza, hzb, hc⟩ := hB.get (i := 0) (by omega)
      replace hc : wr.cell? ⟨bl, off, none⟩ = some (.int .u8 z) := hc
      have BY := Lib.hid (dbyte_any b (dEat s (zs.take i)) z wr hD inv ⟨hza, hzb⟩)
      have ez : zs.getD i 0 = z := by rw [← hz]; simp [List.getD, List.getElem?_drop]
      have SN := Lib.hid (dEat_snoc s zs i (by omega))
      rw [ez] at SN
      rw [← SN.out] at BY
      have nb : dNeedB (dEat s (zs.take i)) = true := by unfold dNeedB; exact decide_eq_true (by omega)
      rw [nb] at ND BY
      have DR := Lib.hid (hB.dropIf (k := 1) (by omega))
      have HNB := Lib.hid ((NA.out (by omega)).of HSB.out)
      have HK := Lib.hid hK
      have n0 : 0 < n' := by omega
      have n1 : ((n' : Int) == 0) = false := by simp; omega
      rw [List.drop_drop] at DR
      clear hz ez SN en inv nb hB hD hK hJ len
      generalize dEat s (zs.take i) = s1 at *
      go_wp2_with fail
      refine ND.out.mono ?_
      rintro e w' ⟨rfl, rfl⟩
      go_wp2_with fail
      refine BY.out.mono ?_
      rintro e w4 ⟨rfl, d4, k4⟩
      have D4 := Lib.hid d4
      have B4 := Lib.hid (DR.out.keeps k4 (fun b' off' _ _ e h => by split at e <;> (cases e; exact HNB.out _ _ rfl h)))
      have K4 := Lib.hid (HK.out.trans k4 (fun _ h => h) (fun _ _ h => h))
      clear d4 k4 BY DR HK ND hc
      by_cases c1 : c' = 1
      · rw [if_pos c1] at B4
        have SB4 := HSB
        subst c1
        obtain rfl : n' = 1 := by omega
        go_wp2
        go_roundg G
        case measure => omega
        case rel => exact ⟨i + 1, _, 0, 0, by omega, by omega, rfl, B4.out, SB4.out, D4.out, K4.out⟩
      · rw [if_neg c1] at B4
        have SB4 := Lib.hid (show SB A (some ⟨bl, off + 1, none⟩) from fun b' off' e => by cases e; exact HSB.out _ _ rfl)
        go_wp2
        go_roundg G
        case measure => omega
        case rel => exact ⟨i + 1, _, n' - 1, c' - 1, by omega, by omega, rfl, B4.out, SB4.out, D4.out, K4.out⟩
    · obtain rfl : i = J := by omega
      have HB := Lib.hid hB
      have HD := Lib.hid hD
      have HK := Lib.hid hK
      by_cases hn : s.n - i = 0
      · have nb : dNeedB (dEat s (zs.take i)) = false := by unfold dNeedB; exact decide_eq_false (by omega)
        have LO := Lib.hid (dlost_any b (dEat s (zs.take i)) wr hD)
        have ei : s.n.toNat = i := by omega
        have FE : Hid (fedB s zs = !dLostB (dEat s (zs.take i))) := by show _ = _; unfold fedB; rw [ei, decide_eq_true (by omega)]; rfl
        have EI := Lib.hid ei
        obtain ⟨lb, hlb⟩ : ∃ x, dLostB (dEat s (zs.take i)) = x := ⟨_, rfl⟩
        rw [hlb] at LO FE
        rw [nb] at ND
        clear hB hD hK en inv nb hlb ei hJ len
        go_wp2_with fail
        refine ND.out.mono ?_
        rintro e w' ⟨rfl, rfl⟩
        go_wp2_with fail
        refine LO.out.mono ?_
        rintro e w' ⟨rfl, kk, rfl⟩
        go_wp2
        go_ret2
        exact ⟨A', n', c', by rw [FE.out]; rfl, HK.out.drewN _, fun _ => by rw [EI.out]; exact ⟨by have := HL.out; omega, HB.out.drewN _, HSB.out, HD.out.drewN _⟩⟩
      · have nb : dNeedB (dEat s (zs.take i)) = true := by unfold dNeedB; exact decide_eq_true (by omega)
        have FE : Hid (fedB s zs = false) := by show _ = _; unfold fedB; rw [decide_eq_false (by omega)]; rfl
        rw [nb] at ND
        obtain rfl : n' = 0 := by omega
        clear hB hD hK en inv nb hJ len
        go_wp2_with fail
        refine ND.out.mono ?_
        rintro e w' ⟨rfl, rfl⟩
        go_wp2
        go_ret2
        exact ⟨none, 0, 0, by rw [FE.out]; rfl, HK.out, fun h => by rw [FE.out] at h; cases h⟩

def rd0 : RdS := ⟨ms0, 0, 1, ⟨0, 0, 0⟩⟩
theorem ROk.start : ROk rd0 := ⟨MOk.start, by decide, show (1 : Int) ≤ 1 by decide, show (1 : Int) < 2 ^ szP 0 by decide, show (0 : Int) ≤ 0 by decide, fun h => absurd (show 0 = 4 from h) (by decide), ⟨show (-9223372036854775808 : Int) ≤ 0 by decide, show (0 : Int) ≤ 9223372036854775807 by decide, show (-9223372036854775808 : Int) ≤ 0 by decide, show (0 : Int) ≤ 9223372036854775807 by decide, show (0 : Int) ≤ 0 by decide, show (0 : Int) ≤ 255 by decide⟩⟩
set_option maxRecDepth 100000 in
theorem tknew_any (w : World) : Calls Try.prog 46 #[] w fun e w' => ∃ T : TL, e = .returned (.pointer (some ⟨T.sb, 0, none⟩)) ∧ Blk w' T.sb (rcells T rd0) 122 ∧ Trees w' T ms0 ∧ T.Ord ∧ w.heap.size < T.g1 ∧ Keeps None w w' := by
  go_enter Try.func46, Try.ntmps46
  go_wp2_with fail
  refine (tkfresh_any w).mono ?_
  rintro e w1 ⟨⟨sx, b1, g1, b2, g2, b3, g3⟩, rfl, t1, hg, hb, ⟨o1, o2, o3, o4, o5⟩, k1⟩
  have T1 := Lib.hid t1
  have K1 := Lib.hid k1
  clear t1 k1
  unfold magg ms0
  dsimp only at hg hb o1 o2 o3 o4 o5
  go_wp2
  go_ret
  exact ⟨⟨w1.heap.size, b1, g1, b2, g2, b3, g3⟩, rfl, Blk.new w1 _ _, ⟨T1.out.t1.keeps ((Keeps.refl None w1).alloc _) (fun h => h) (fun h => h), T1.out.t2.keeps ((Keeps.refl None w1).alloc _) (fun h => h) (fun h => h), T1.out.t3.keeps ((Keeps.refl None w1).alloc _) (fun h => h) (fun h => h)⟩, ⟨o1, o2, o3, o4, o5, hb⟩, hg, K1.out.alloc _⟩
end Go.Proofs.Ytggjdkkobhefeaa
