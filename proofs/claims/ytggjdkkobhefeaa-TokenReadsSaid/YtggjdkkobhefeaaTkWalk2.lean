/- The walks of token.Plain, and of the reference's RightTokens and Plain. -/
import Derived.Test.YtggjdkkobhefeaaTkWalk
namespace Go.Proofs.Ytggjdkkobhefeaa
open Go.RowKit

theorem Own.notBlk {w : World} {B : Nat} {v : Value} {zs : List Int} {b : Nat} {c : List Value} {T : TypeId} (h : Own w B v zs) (hb : Blk w b c T) (hT : T ≠ 5) : ¬ v.ownBlock = some b := by
  intro e
  rcases h.1.2 with ⟨rfl, _⟩ | ⟨g, cap, cur, rfl, _, hg, _⟩
  · cases e
  · obtain rfl : g = b := by simpa [Value.ownBlock] using e
    unfold Blk at hb
    rw [hg] at hb
    simp only [Option.some.injEq, Obj.cells.injEq] at hb
    exact hT hb.2.1.symm
theorem right_out {ts : List Tok} (h : rightB ts 0 = true) : plainL ts = plainT ts [] := if_pos h
theorem right_no {ts : List Tok} (h : rightB ts 0 = false) : plainL ts = [] := if_neg (by rw [h]; decide)
set_option maxRecDepth 100000 in
set_option maxHeartbeats 1600000 in
theorem tkplain_any (A : Option Addr) (m cap : Nat) (ts : List Tok) (w : World) (h : Ts w A m cap ts) : Calls Try.prog 31 #[.slice A m cap] w (Cloned w (plainL ts)) := by
  have hle := h.le
  have hmx := h.max
  have H := Lib.hid h
  have HL := Lib.hid h.len
  have RT := Lib.hid (tkright_any A m cap ts w h)
  clear h
  cases hr : rightB ts 0 with
  | false =>
    rw [hr] at RT
    have PL := Lib.hid (right_no hr)
    clear hr
    go_enter Try.func31, Try.ntmps31
    go_wp2_with fail
    refine RT.out.mono ?_
    rintro e w2 ⟨rfl, k2⟩
    have K2 := Lib.hid k2
    clear k2
    go_wp2
    go_ret
    rw [PL.out]
    exact ⟨_, rfl, Own.nil _ _, K2.out⟩
  | true =>
  rw [hr] at RT
  rw [right_out hr]
  obtain ⟨pl, hpl⟩ : ∃ x, plainT ts [] = x := ⟨_, rfl⟩
  rw [hpl]
  have HP := Lib.hid hpl
  have HR := Lib.hid hr
  clear hpl hr
  go_enter Try.func31, Try.ntmps31
  go_wp2_with fail
  refine RT.out.mono ?_
  rintro e w2 ⟨rfl, k2⟩
  have K2 := Lib.hid k2
  clear k2 RT
  go_wp2
  go_loopw [3, 11] (fun ov iv wr => ∃ (j : Nat) (out : List Int), j ≤ m ∧ iv = .int .i64 j ∧ Own wr w.heap.size ov out ∧ plainT (ts.drop j) out = pl ∧ rightB (ts.drop j) out.length = true ∧ out.length ≤ 8192 ∧ Keeps None w wr) (fun _ iv _ => m - (intOf iv).toNat)
  case atStart => exact ⟨0, [], Nat.zero_le _, rfl, Own.nil _ _, by rw [List.drop_zero]; exact HP.out, by rw [List.drop_zero]; exact HR.out, by decide, K2.out⟩
  case round =>
    obtain ⟨j, out, hj, rfl, ho, hp, hr, hl, hk⟩ := hrel
    have HK := Lib.hid hk
    have PP := Lib.hid hp
    have RR := Lib.hid hr
    obtain ⟨A0, cap0, rfl, -, -⟩ := ho.shape
    obtain ⟨wv, rfl⟩ : ∃ x, x = wr := ⟨_, rfl⟩
    have OO := Lib.hid ho
    obtain ⟨lo, hlo⟩ : ∃ x, out.length = x := ⟨_, rfl⟩
    rw [hlo] at hl OO ⊢
    have LO := Lib.hid hlo
    clear hk hp hr K2 ho hlo
    by_cases hlt : j < m
    · obtain ⟨bl, off, t, rfl, -, htd, hw, c1, c2, c3⟩ := (H.out.later HK.out).get hlt
      have RR2 := Lib.hid (htd ▸ RR.out)
      have PP2 := Lib.hid (htd ▸ PP.out)
      obtain ⟨r1, r2, r3⟩ := rightB_cons RR2.out
      rw [LO.out] at r1 r2 r3
      have WF := Lib.hid hw
      have KA : Hid (Keeps None w (wv.alloc (.cells #[.int .i64 t.n, .int .i64 t.d, .int .u8 t.b] 43))) := HK.out.alloc _
      have BA := Lib.hid (Blk.new wv [.int .i64 t.n, .int .i64 t.d, .int .u8 t.b] 43)
      have OA := Lib.hid (OO.out.alloc (.cells #[.int .i64 t.n, .int .i64 t.d, .int .u8 t.b] 43))
      have R3 : Hid (rightB (ts.drop (j + 1)) (stepT t out).length = true) := by show _ = _; rw [stepT_len r1, LO.out]; exact r3
      have SL : Hid ((stepT t out).length ≤ 8192) := by show _ ≤ _; have := stepT_len r1 out; rw [LO.out] at this; omega
      have PP3 : Hid (plainT (ts.drop (j + 1)) (stepT t out) = pl) := PP2.out
      clear htd hw RR RR2 PP PP2 r2 r3
      by_cases h0 : t.n = 0
      · have ST : Hid (stepT t out = out ++ [t.b]) := if_pos h0
        have b0 := WF.out.b0
        have b1 := WF.out.b1
        have d0 := mayT_lit r1 h0
        rw [ST.out] at R3 SL PP3
        rw [h0] at KA BA OA c1
        clear ST r1 OO HK d0
        obtain ⟨tn, td, tb⟩ := t
        simp only [] at c1 c2 c3 KA BA OA R3 SL PP3 b0 b1 h0
        subst h0
        have ZB : Hid (0 ≤ tb ∧ tb ≤ 255) := ⟨b0, b1⟩
        go_wp2_with (at_builtin; refine Hid.out ?_)
        refine Lib.hid ?_
        have e9 : ((wv.alloc (.cells #[.int .i64 0, .int .i64 td, .int .u8 tb] 43)).alloc (.cells #[.int .u8 tb] 5)).heap.size = wv.heap.size + 1 + 1 := by simp
        refine wpList_append_bs (OA.out.alloc (.cells #[.int .u8 tb] 5)) (Bs.oneAt _ _ (by simp) tb ZB.out) (by rw [LO.out]; omega) (Nat.le_trans KA.out.size ((Keeps.refl None _).alloc _).size) rfl rfl rfl rfl rfl ?_
        intro v4 w4 ho4 hk4
        have OAA := OA.out.alloc (.cells #[.int .u8 tb] 5)
        have KB := KA.out.alloc (.cells #[.int .u8 tb] 5)
        have BB := BA.out.alloc (.cells #[.int .u8 tb] 5)
        have K4 : Hid (Keeps None w w4) := KB.trans hk4 (fun _ h => h) (fun i hi e => (OAA.notBelow hi e).elim)
        have B4 := Lib.hid (hk4.blk BB (OAA.notBlk BB (by decide)))
        have O4 := Lib.hid ho4
        have x0 := B4.out.cellD 0 _ rfl
        clear ho4 hk4 OAA KB BB e9 KA BA OA c1 c2 c3
        go_wp2
        go_loopw [3, 25] (fun ov kv wr' => ov = v4 ∧ kv = .int .i64 (0 : Int) ∧ wr' = w4) (fun _ _ _ => 0)
        case atStart => exact ⟨rfl, rfl, rfl⟩
        case round =>
          obtain ⟨rfl, rfl, rfl⟩ := hrel
          go_wp2
          go_roundw
          case rel => exact ⟨j + 1, _, hlt, by go_num, O4.out, PP3.out, R3.out, SL.out, K4.out⟩
          case measure => simp [intOf]; omega
      · have ST : Hid (stepT t out = copyT t.d.toNat t.n.toNat out) := if_neg h0
        have mc := mayT_copy r1 h0
        obtain ⟨tn, td, tb⟩ := t
        simp only [] at c1 c2 c3 KA BA OA R3 SL PP3 mc h0 ST
        obtain ⟨nn, rfl⟩ : ∃ x : Nat, tn = x := ⟨tn.toNat, by omega⟩
        obtain ⟨dn, rfl⟩ : ∃ x : Nat, td = x := ⟨td.toNat, by omega⟩
        simp only [Int.toNat_natCast] at ST
        rw [ST.out] at R3 SL PP3
        have SL2 : lo + nn ≤ 8192 := by have := SL.out; rw [copyT_len, LO.out] at this; exact this
        have dn1 : 1 ≤ dn := by omega
        have dnl : dn ≤ lo := by omega
        have nn2 : 2 ≤ nn := by omega
        have hnz : ((nn : Int) == 0) = false := by simp; omega
        have OBY := Lib.hid OO.out.2
        clear r1 mc h0 ST
        obtain ⟨bx, hbx⟩ : ∃ x, wv.heap.size = x := ⟨_, rfl⟩
        rw [hbx] at BA
        go_wp2
        obtain ⟨wa, hwa⟩ : ∃ x, wv.alloc (.cells #[.int .i64 nn, .int .i64 dn, .int .u8 tb] 43) = x := ⟨_, rfl⟩
        rw [hwa] at KA BA OA
        rw [hwa]
        clear hwa hbx OO HK c1 c2 c3
        go_loopw [3, 25] (fun ov kv wr' => ∃ (k : Nat), k ≤ nn ∧ kv = .int .i64 k ∧ Own wr' w.heap.size ov (copyT dn k out) ∧ Blk wr' bx [.int .i64 nn, .int .i64 dn, .int .u8 tb] 43 ∧ Keeps None w wr') (fun _ kv _ => nn - (intOf kv).toNat)
        case atStart => exact ⟨0, Nat.zero_le _, rfl, OA.out, BA.out, KA.out⟩
        case round =>
          obtain ⟨k, hkn, rfl, ho, hb, hk⟩ := hrel
          obtain ⟨wi, rfl⟩ : ∃ x, x = wr := ⟨_, rfl⟩
          have HB := Lib.hid hb
          have HK := Lib.hid hk
          have lk : (copyT dn k out).length = lo + k := by rw [copyT_len, LO.out]
          obtain ⟨ok, hok⟩ : ∃ x, copyT dn k out = x := ⟨_, rfl⟩
          have SC : Hid (copyT dn (k + 1) out = ok ++ [ok.getD (lo + k - dn) 0]) := by show _ = _; rw [copyT_succ, lk, hok]
          have HOK := Lib.hid hok
          rw [hok] at ho lk
          have LK := Lib.hid lk
          obtain ⟨A4, cap4, rfl, -, -⟩ := ho.shape
          rw [lk] at ho ⊢
          have O4 := Lib.hid ho
          clear hb hk KA BA OA hok
          by_cases hki : k < nn
          · obtain ⟨p, hp⟩ : ∃ x, lo + k - dn = x := ⟨_, rfl⟩
            obtain ⟨l4, hl4⟩ : ∃ x, lo + k = x := ⟨_, rfl⟩
            obtain ⟨g, rfl, hg1, hg2, -, hg3, hg4, hc, hf⟩ := ho.at_ (k := p) (by omega)
            have hzb := byte_getD ho.2 p
            rw [hp] at SC
            rw [hl4] at O4 LK hg3 hp ⊢
            generalize ok.getD p 0 = z at *
            have ZB := Lib.hid hzb
            have z0 := hzb.1
            have z1 := hzb.2
            have i1 : IntKind.i64.wrap ((l4 : Int) - dn) = p := by rw [show (l4 : Int) - dn = (p : Int) by omega]; exact wrap_nat _ (by omega)
            have l49 : l4 ≤ 8192 := by omega
            have pl4 : p < l4 := by omega
            have x0 := HB.out.cellD 0 _ rfl
            have x1 := HB.out.cellD 1 _ rfl
            have KI : Hid (Keeps None w (wi.alloc (.cells #[.int .u8 z] 5))) := HK.out.alloc _
            clear ho hzb lk hp hl4 hg1 hg2 hg4
            go_wp2_with (at_builtin; refine Hid.out ?_)
            refine Lib.hid ?_
            refine wpList_append_bs (O4.out.alloc (.cells #[.int .u8 z] 5)) (Bs.oneAt _ _ rfl z ZB.out) (by rw [LK.out]; omega) KI.out.size rfl rfl rfl rfl rfl ?_
            intro v5 w5 ho5 hk5
            have OAA := O4.out.alloc (.cells #[.int .u8 z] 5)
            have BB := HB.out.alloc (.cells #[.int .u8 z] 5)
            have K5 : Hid (Keeps None w w5) := KI.out.trans hk5 (fun _ h => h) (fun i hi e => (OAA.notBelow hi e).elim)
            have B5 := Lib.hid (hk5.blk BB (OAA.notBlk BB (by decide)))
            have O5 := Lib.hid ho5
            rw [← SC.out] at O5
            clear ho5 hk5 OAA BB KI hc hf x0 x1
            go_wp2
            go_roundw
            case rel => exact ⟨k + 1, hki, by go_num, O5.out, B5.out, K5.out⟩
            case measure => simp [intOf]; omega
          · obtain rfl : k = nn := by omega
            rw [← HOK.out] at O4
            have x0 := HB.out.cellD 0 _ rfl
            have OF : Hid (Own wi w.heap.size (.slice A4 (lo + k) cap4) (copyT dn k out)) := O4.out
            clear ho lk
            go_wp2
            go_roundw
            case rel => exact ⟨j + 1, _, hlt, by go_num, OF.out, PP3.out, R3.out, SL.out, HK.out⟩
            case measure => simp [intOf]; omega
    · obtain rfl : j = m := by omega
      have RF : Hid (out = pl) := by show _ = _; rw [← PP.out, List.drop_of_length_le (by rw [HL.out]; exact Nat.le_refl _)]; rfl
      go_wp2
      go_ret
      exact ⟨_, rfl, RF.out ▸ OO.out, HK.out⟩
end Go.Proofs.Ytggjdkkobhefeaa
