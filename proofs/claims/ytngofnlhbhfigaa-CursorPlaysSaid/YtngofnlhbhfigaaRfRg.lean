/- The walks of the reference's regions: Of, Size, Read, Program, Erase, IsBlank. -/
import Derived.Test.YtngofnlhbhfigaaRfLaw
import Derived.Test.YtngofnlhbhfigaaRgLaw
namespace Go.Proofs.Ytngofnlhbhfigaa
open Go.RowKit

theorem RAt.dk {w : World} {B : Nat} {L : RL} {s : FS} {q : Nat} (h : RAt w B L s) (hq : L.bf = q) : w.cell? ⟨q, 5, none⟩ = some (.bool s.dark) := by rw [← hq]; exact h.f.cellD 5 _ rfl
set_option maxRecDepth 100000 in
theorem rgsize_any (p : Option Addr) (first : Int) (count : Nat) (hc : count ≤ 1000000) (w : World) : Calls Try.prog 48 #[.agg #[.pointer p, .int .i64 first, .int .i64 count]] w (Pure (.int .i64 (1024 * count : Nat)) w) := by
  have k0 : Keeps None w (w.alloc (.cells #[.pointer p, .int .i64 first, .int .i64 count] 66)) := (Keeps.refl None w).alloc _
  have hm : ((count : Int) * 1024) = ((1024 * count : Nat) : Int) := by omega
  go_enter Try.func48, Try.ntmps48
  go_wp2
  go_ret
  exact ⟨ret_int (by omega), k0⟩

set_option maxRecDepth 100000 in
theorem rgread_any (B : Nat) (L : RL) (s : FS) (q first count : Nat) (a m : Int) (w : World) (h : RAt w B L s) (hq : L.bf = q) (hf : first + count ≤ 256) : Calls Try.prog 88 #[.agg #[.pointer (some ⟨q, 0, none⟩), .int .i64 first, .int .i64 count], .int .i64 a, .int .i64 m] w (ReadTold w (s.gread first count a m)) := by
  have GR : Hid (s.gread first count a m = if s.dark = true then ([], 5) else if withinB a m (1024 * count : Nat) = true then s.readF (1024 * first + a) m else ([], 2)) := rfl
  have SZ := Lib.hid (fun w => rgsize_any (some ⟨q, 0, none⟩) first count (by omega) w)
  obtain ⟨sz, hsz⟩ : ∃ sz : Nat, 1024 * count = sz := ⟨_, rfl⟩
  rw [hsz] at SZ GR
  have WI := Lib.hid (fun w => rfwithin_any a m sz (by omega) w)
  have RD := Lib.hid (fun w' a (hh : RAt w' B L s) => rfread_any B L s q a m w' hh hq)
  have k0 : Keeps None w (w.alloc (.cells #[.pointer (some ⟨q, 0, none⟩), .int .i64 first, .int .i64 count] 66)) := (Keeps.refl None w).alloc _
  have bx : Blk (w.alloc (.cells #[.pointer (some ⟨q, 0, none⟩), .int .i64 first, .int .i64 count] 66)) w.heap.size [.pointer (some ⟨q, 0, none⟩), .int .i64 first, .int .i64 count] 66 := Blk.new w [.pointer (some ⟨q, 0, none⟩), .int .i64 first, .int .i64 count] 66
  have K0 := Lib.hid k0
  have BX := Lib.hid bx
  have H0 := Lib.hid (h.later K0.out)
  have dk := H0.out.dk hq
  have y0 := bx.cellD 0 _ rfl
  have y1 := bx.cellD 1 _ rfl
  have y2 := bx.cellD 2 _ rfl
  clear k0 bx
  clear h
  cases hd : s.dark with
  | true =>
    rw [hd] at dk
    have GG : Hid (s.gread first count a m = ([], 5)) := by show _ = _; rw [GR.out, if_pos hd]
    clear hd GR hsz
    go_enter Try.func88, Try.ntmps88
    go_wp2
    go_ret2
    rw [GG.out]
    exact ⟨_, rfl, Own.nil _ _, K0.out⟩
  | false =>
    rw [hd] at dk
    cases hw : withinB a m sz with
    | false =>
      have GG : Hid (s.gread first count a m = ([], 2)) := by show _ = _; rw [GR.out, if_neg (by rw [hd]; decide), if_neg (by rw [hw]; decide)]
      rw [hw] at WI
      clear hd GR hsz hw
      go_enter Try.func88, Try.ntmps88
      go_wp2_with fail
      refine (SZ.out _).mono ?_
      rintro e w2 ⟨rfl, k2⟩
      have K2 := Lib.hid (K0.out.trans k2 (T := None) (fun _ h => h) (fun _ _ h => h))
      clear k2
      go_wp2_with fail
      refine (WI.out _).mono ?_
      rintro e w' ⟨rfl, rfl⟩
      go_wp2
      go_ret2
      rw [GG.out]
      exact ⟨_, rfl, Own.nil _ _, K2.out⟩
    | true =>
      have hg : s.gread first count a m = s.readF (1024 * first + a) m := by rw [GR.out, if_neg (by rw [hd]; decide), if_pos hw]
      rw [hw] at WI
      obtain ⟨i, j, rfl, rfl, hij⟩ := within_nat hw
      rw [hg]
      obtain ⟨bs, hbs⟩ : ∃ b : Nat, 1024 * first = b := ⟨_, rfl⟩
      obtain ⟨p, hp⟩ : ∃ p : Nat, bs + i = p := ⟨_, rfl⟩
      have e1 : (1024 * (first : Int) + i) = (p : Int) := by omega
      rw [e1]
      have e2 : ((first : Int) * 1024) = bs := by omega
      have w1 : IntKind.i64.wrap ((bs : Int) + i) = p := by rw [show (bs : Int) + i = (p : Int) by omega]; exact wrap_nat _ (by omega)
      have RDp := Lib.hid (fun w' (hh : RAt w' B L s) => RD.out w' p hh)
      have hf9 : bs ≤ 262144 := by omega
      generalize s.readF p j = r at *
      clear GR hg hw hd RD hbs hp e1 hsz
      go_enter Try.func88, Try.ntmps88
      go_wp2_with fail
      refine (SZ.out _).mono ?_
      rintro e w2 ⟨rfl, k2⟩
      have K2 := Lib.hid (K0.out.trans k2 (T := None) (fun _ h => h) (fun _ _ h => h))
      have H2 := Lib.hid (H0.out.later k2)
      have B2 := Lib.hid (k2.blk BX.out (fun h => h))
      clear k2 y0 y1 y2 dk
      have y0 := B2.out.cellD 0 _ rfl
      have y1 := B2.out.cellD 1 _ rfl
      have y2 := B2.out.cellD 2 _ rfl
      go_wp2_with fail
      refine (WI.out _).mono ?_
      rintro e w' ⟨rfl, rfl⟩
      go_wp2_with fail
      refine (RDp.out _ H2.out).mono ?_
      rintro e w3 ⟨v3, rfl, o3, k3⟩
      have O3 := Lib.hid o3
      have K3 := Lib.hid (K2.out.trans k3 (T := None) (fun _ h => h) (fun _ _ h => h))
      have S3 := Lib.hid K2.out.size
      clear o3 k3
      go_wp2
      go_ret2
      exact ⟨v3, rfl, O3.out.lower S3.out, K3.out⟩

set_option maxRecDepth 100000 in
theorem rgprogram_any (B : Nat) (L : RL) (s : FS) (q first count : Nat) (a : Int) (A : Option Addr) (m c : Nat) (zs : List Int) (w : World) (h : RAt w B L s) (hq : L.bf = q) (hf : first + count ≤ 256) (hb : Rb w L A m c zs) (hst : 0 ≤ s.steps ∧ s.steps + m ≤ 1000000000000) :
    Calls Try.prog 89 #[.agg #[.pointer (some ⟨q, 0, none⟩), .int .i64 first, .int .i64 count], .int .i64 a, .slice A m c] w (RProgTold w B L (s.gprog first count a zs)) := by
  have hml := hb.bs.len
  have hle := hb.bs.le
  have hmx := hb.bs.max
  have GR : Hid (s.gprog first count a zs = if s.dark = true then (s, 5) else if withinB a m (1024 * count : Nat) = true then s.progF (1024 * first + a) zs else (s, 2)) := by
    show s.gprog first count a zs = _
    unfold FS.gprog; rw [hml]
  have SZ := Lib.hid (fun w => rgsize_any (some ⟨q, 0, none⟩) first count (by omega) w)
  obtain ⟨sz, hsz⟩ : ∃ sz : Nat, 1024 * count = sz := ⟨_, rfl⟩
  rw [hsz] at SZ GR
  have WI := Lib.hid (fun w => rfwithin_any a m sz (by omega) w)
  have PR := Lib.hid (fun w' a (hh : RAt w' B L s) (hk : Keeps None w w') => rfprogram_any B L s q a A m c zs w' hh hq (hb.later hk) hst)
  have HW := Lib.hid h
  have k0 : Keeps None w (w.alloc (.cells #[.pointer (some ⟨q, 0, none⟩), .int .i64 first, .int .i64 count] 66)) := (Keeps.refl None w).alloc _
  have bx : Blk (w.alloc (.cells #[.pointer (some ⟨q, 0, none⟩), .int .i64 first, .int .i64 count] 66)) w.heap.size [.pointer (some ⟨q, 0, none⟩), .int .i64 first, .int .i64 count] 66 := Blk.new w [.pointer (some ⟨q, 0, none⟩), .int .i64 first, .int .i64 count] 66
  have K0 := Lib.hid k0
  have BX := Lib.hid bx
  have H0 := Lib.hid (h.later K0.out)
  have dk := H0.out.dk hq
  have y0 := bx.cellD 0 _ rfl
  have y1 := bx.cellD 1 _ rfl
  have y2 := bx.cellD 2 _ rfl
  clear k0 bx
  clear h hb hml
  cases hd : s.dark with
  | true =>
    rw [hd] at dk
    have GG : Hid (s.gprog first count a zs = (s, 5)) := by show _ = _; rw [GR.out, if_pos hd]
    clear hd GR hsz
    go_enter Try.func89, Try.ntmps89
    go_wp2
    go_ret
    rw [GG.out]
    exact ⟨rfl, _, RTurn.still HW.out K0.out⟩
  | false =>
    rw [hd] at dk
    cases hw : withinB a m sz with
    | false =>
      have GG : Hid (s.gprog first count a zs = (s, 2)) := by show _ = _; rw [GR.out, if_neg (by rw [hd]; decide), if_neg (by rw [hw]; decide)]
      rw [hw] at WI
      clear hd GR hsz hw
      go_enter Try.func89, Try.ntmps89
      go_wp2_with fail
      refine (SZ.out _).mono ?_
      rintro e w2 ⟨rfl, k2⟩
      have K2 := Lib.hid (K0.out.trans k2 (T := None) (fun _ h => h) (fun _ _ h => h))
      clear k2
      go_wp2_with fail
      refine (WI.out _).mono ?_
      rintro e w' ⟨rfl, rfl⟩
      go_wp2
      go_ret
      rw [GG.out]
      exact ⟨rfl, _, RTurn.still HW.out K2.out⟩
    | true =>
      have hg : s.gprog first count a zs = s.progF (1024 * first + a) zs := by rw [GR.out, if_neg (by rw [hd]; decide), if_pos hw]
      rw [hw] at WI
      obtain ⟨i, j, rfl, hj, hij⟩ := within_nat hw
      rw [hg]
      obtain ⟨bs, hbs⟩ : ∃ b : Nat, 1024 * first = b := ⟨_, rfl⟩
      obtain ⟨p, hp⟩ : ∃ p : Nat, bs + i = p := ⟨_, rfl⟩
      have e1 : (1024 * (first : Int) + i) = (p : Int) := by omega
      rw [e1]
      have e2 : ((first : Int) * 1024) = bs := by omega
      have w1 : IntKind.i64.wrap ((bs : Int) + i) = p := by rw [show (bs : Int) + i = (p : Int) by omega]; exact wrap_nat _ (by omega)
      have PRp := Lib.hid (fun w' (hh : RAt w' B L s) (hk : Keeps None w w') => PR.out w' p hh hk)
      have hf9 : bs ≤ 262144 := by omega
      generalize s.progF p zs = r at *
      clear GR hg hw hd PR hbs hp e1 hsz hj
      go_enter Try.func89, Try.ntmps89
      go_wp2_with fail
      refine (SZ.out _).mono ?_
      rintro e w2 ⟨rfl, k2⟩
      have K2 := Lib.hid (K0.out.trans k2 (T := None) (fun _ h => h) (fun _ _ h => h))
      have H2 := Lib.hid (H0.out.later k2)
      have B2 := Lib.hid (k2.blk BX.out (fun h => h))
      clear k2 y0 y1 y2 dk
      have y0 := B2.out.cellD 0 _ rfl
      have y1 := B2.out.cellD 1 _ rfl
      have y2 := B2.out.cellD 2 _ rfl
      go_wp2_with fail
      refine (WI.out _).mono ?_
      rintro e w' ⟨rfl, rfl⟩
      go_wp2_with fail
      refine (PRp.out _ H2.out K2.out).mono ?_
      rintro e w3 ⟨rfl, L3, t3⟩
      have T3 := Lib.hid (RTurn.from K2.out t3)
      clear t3
      go_wp2
      go_ret
      exact ⟨rfl, _, T3.out⟩

set_option maxRecDepth 100000 in
theorem rgerase_any (B : Nat) (L : RL) (s : FS) (q first count : Nat) (k : Int) (w : World) (h : RAt w B L s) (hq : L.bf = q) (hf : first + count ≤ 256) (hst : 0 ≤ s.steps ∧ s.steps ≤ 1000000000000) (her : ∀ i, 0 ≤ s.er.getD i 0 ∧ s.er.getD i 0 ≤ 1000000000000) :
    Calls Try.prog 90 #[.agg #[.pointer (some ⟨q, 0, none⟩), .int .i64 first, .int .i64 count], .int .i64 k] w (RProgTold w B L (s.gerase first count k)) := by
  have GR : Hid (s.gerase first count k = if s.dark = true then (s, 5) else if k < 0 ∨ (count : Int) ≤ k then (s, 2) else s.eraseF (first + k)) := rfl
  have ER := Lib.hid (fun w' k (hh : RAt w' B L s) => rferase_any B L s q k w' hh hq hst her)
  have HW := Lib.hid h
  have k0 : Keeps None w (w.alloc (.cells #[.pointer (some ⟨q, 0, none⟩), .int .i64 first, .int .i64 count] 66)) := (Keeps.refl None w).alloc _
  have bx : Blk (w.alloc (.cells #[.pointer (some ⟨q, 0, none⟩), .int .i64 first, .int .i64 count] 66)) w.heap.size [.pointer (some ⟨q, 0, none⟩), .int .i64 first, .int .i64 count] 66 := Blk.new w [.pointer (some ⟨q, 0, none⟩), .int .i64 first, .int .i64 count] 66
  have K0 := Lib.hid k0
  have BX := Lib.hid bx
  have H0 := Lib.hid (h.later K0.out)
  have dk := H0.out.dk hq
  have y0 := bx.cellD 0 _ rfl
  have y1 := bx.cellD 1 _ rfl
  have y2 := bx.cellD 2 _ rfl
  clear k0 bx
  clear h her hst
  cases hd : s.dark with
  | true =>
    rw [hd] at dk
    have GG : Hid (s.gerase first count k = (s, 5)) := by show _ = _; rw [GR.out, if_pos hd]
    clear hd GR
    go_enter Try.func90, Try.ntmps90
    go_wp2
    go_ret
    rw [GG.out]
    exact ⟨rfl, _, RTurn.still HW.out K0.out⟩
  | false =>
    rw [hd] at dk
    by_cases q1 : k < 0
    · have d1 : decide (k < 0) = true := decide_eq_true q1
      have GG : Hid (s.gerase first count k = (s, 2)) := by show _ = _; rw [GR.out, if_neg (by rw [hd]; decide), if_pos (.inl q1)]
      clear hd GR
      go_enter Try.func90, Try.ntmps90
      go_wp2
      go_ret
      rw [GG.out]
      exact ⟨rfl, _, RTurn.still HW.out K0.out⟩
    have d1 : decide (k < 0) = false := decide_eq_false q1
    by_cases q2 : (count : Int) ≤ k
    · have d2 : decide ((count : Int) ≤ k) = true := decide_eq_true q2
      have GG : Hid (s.gerase first count k = (s, 2)) := by show _ = _; rw [GR.out, if_neg (by rw [hd]; decide), if_pos (.inr q2)]
      clear hd GR
      go_enter Try.func90, Try.ntmps90
      go_wp2
      go_ret
      rw [GG.out]
      exact ⟨rfl, _, RTurn.still HW.out K0.out⟩
    have d2 : decide ((count : Int) ≤ k) = false := decide_eq_false q2
    have hg : s.gerase first count k = s.eraseF (first + k) := by rw [GR.out, if_neg (by rw [hd]; decide), if_neg (by omega)]
    have b1 : 0 ≤ k := by omega
    have b2 : k ≤ 256 := by omega
    rw [hg]
    have ERp := Lib.hid (fun w' (hh : RAt w' B L s) => ER.out w' (first + k) hh)
    generalize s.eraseF (first + k) = r at *
    clear GR hg hd ER
    go_enter Try.func90, Try.ntmps90
    go_wp2_with fail
    refine (ERp.out _ H0.out).mono ?_
    rintro e w3 ⟨rfl, L3, t3⟩
    have T3 := Lib.hid (RTurn.from K0.out t3)
    clear t3
    go_wp2
    go_ret
    exact ⟨rfl, _, T3.out⟩

set_option maxRecDepth 100000 in
theorem rgblank_any (B : Nat) (L : RL) (s : FS) (q first count : Nat) (k : Int) (w : World) (h : RAt w B L s) (hq : L.bf = q) (hf : first + count ≤ L.n) :
    Calls Try.prog 91 #[.agg #[.pointer (some ⟨q, 0, none⟩), .int .i64 first, .int .i64 count], .int .i64 k] w (Pure (.tuple #[.bool (s.gblank first count k).1, .int .i64 (s.gblank first count k).2]) w) := by
  have hn9 := h.n9
  have RD := Lib.hid (fun w' a m (hh : RAt w' B L s) => rgread_any B L s q first count a m w' hh hq (by omega))
  have GR : Hid (s.gblank first count k = if s.dark = true then (false, 5) else if k < 0 ∨ (count : Int) ≤ k then (false, 2) else (blankB ((s.b.drop (1024 * (first + k.toNat))).take 1024), 0)) := rfl
  have hbl := h.bl
  have hnN := h.nN
  have k0 : Keeps None w (w.alloc (.cells #[.pointer (some ⟨q, 0, none⟩), .int .i64 first, .int .i64 count] 66)) := (Keeps.refl None w).alloc _
  have bx : Blk (w.alloc (.cells #[.pointer (some ⟨q, 0, none⟩), .int .i64 first, .int .i64 count] 66)) w.heap.size [.pointer (some ⟨q, 0, none⟩), .int .i64 first, .int .i64 count] 66 := Blk.new w [.pointer (some ⟨q, 0, none⟩), .int .i64 first, .int .i64 count] 66
  have K0 := Lib.hid k0
  have BX := Lib.hid bx
  have H0 := Lib.hid (h.later K0.out)
  have dk := H0.out.dk hq
  have y0 := bx.cellD 0 _ rfl
  have y1 := bx.cellD 1 _ rfl
  have y2 := bx.cellD 2 _ rfl
  clear k0 bx
  clear h
  cases hd : s.dark with
  | true =>
    rw [hd] at dk
    have GG : Hid (s.gblank first count k = (false, 5)) := by show _ = _; rw [GR.out, if_pos hd]
    clear hd GR hbl hnN
    go_enter Try.func91, Try.ntmps91
    go_wp2
    go_ret2
    rw [GG.out]
    exact ⟨rfl, K0.out⟩
  | false =>
    rw [hd] at dk
    by_cases q1 : k < 0
    · have d1 : decide (k < 0) = true := decide_eq_true q1
      have GG : Hid (s.gblank first count k = (false, 2)) := by show _ = _; rw [GR.out, if_neg (by rw [hd]; decide), if_pos (.inl q1)]
      clear hd GR hbl hnN
      go_enter Try.func91, Try.ntmps91
      go_wp2
      go_ret2
      rw [GG.out]
      exact ⟨rfl, K0.out⟩
    have d1 : decide (k < 0) = false := decide_eq_false q1
    by_cases q2 : (count : Int) ≤ k
    · have d2 : decide ((count : Int) ≤ k) = true := decide_eq_true q2
      have GG : Hid (s.gblank first count k = (false, 2)) := by show _ = _; rw [GR.out, if_neg (by rw [hd]; decide), if_pos (.inr q2)]
      clear hd GR hbl hnN
      go_enter Try.func91, Try.ntmps91
      go_wp2
      go_ret2
      rw [GG.out]
      exact ⟨rfl, K0.out⟩
    obtain ⟨j, rfl⟩ : ∃ j : Nat, k = j := ⟨k.toNat, by omega⟩
    have hj : j < count := by omega
    have d2 : decide ((count : Int) ≤ j) = false := decide_eq_false q2
    have d3 : decide (count ≤ j) = false := decide_eq_false (by omega)
    have hg : s.gblank first count j = (blankB ((s.b.drop (1024 * (first + j))).take 1024), 0) := by rw [GR.out, if_neg (by rw [hd]; decide), if_neg (by omega), Int.toNat_natCast]
    have hr : s.gread first count ((1024 * j : Nat) : Int) 1024 = ((s.b.drop (1024 * (first + j))).take 1024, 0) := by
      unfold FS.gread
      rw [if_neg (by rw [hd]; decide), if_pos (show withinB _ _ _ = true from decide_eq_true ⟨by omega, by omega, by omega, by omega⟩)]
      unfold FS.readF
      rw [if_neg (by rw [hd]; decide), hbl, if_pos (show withinB _ _ _ = true from decide_eq_true ⟨by omega, by omega, by omega, by omega⟩)]
      have e : (1024 * (first : Int) + ((1024 * j : Nat) : Int)).toNat = 1024 * (first + j) := by omega
      rw [e]; rfl
    rw [hg]
    have RDp := Lib.hid (fun w' (hh : RAt w' B L s) => RD.out w' ((1024 * j : Nat) : Int) 1024 hh)
    rw [hr] at RDp
    obtain ⟨zs, hzs⟩ : ∃ zs, (s.b.drop (1024 * (first + j))).take 1024 = zs := ⟨_, rfl⟩
    rw [hzs] at RDp ⊢
    obtain ⟨p, hp⟩ : ∃ p : Nat, 1024 * j = p := ⟨_, rfl⟩
    have e1 : ((j : Int) * 1024) = p := by omega
    rw [hp] at RDp
    have p9 : p ≤ 262144 := by omega
    clear GR hg hd RD hr hzs hp hbl hnN
    go_enter Try.func91, Try.ntmps91
    go_wp2_with fail
    refine (RDp.out _ H0.out).mono ?_
    rintro e w3 ⟨v3, rfl, o3, k3⟩
    obtain ⟨A3, c3, rfl, bs3⟩ := slice_of_own o3
    have K3 := Lib.hid (K0.out.trans k3 (T := None) (fun _ h => h) (fun _ _ h => h))
    have IB := Lib.hid (risBlank_any _ _ _ _ _ bs3)
    clear k3 o3 bs3 y0 y1 y2 dk
    go_wp2_with fail
    refine IB.out.mono ?_
    rintro e w' ⟨rfl, rfl⟩
    go_wp2
    go_ret2
    exact ⟨rfl, K3.out⟩

theorem Try.infoR66 : (Try.prog.info? 66).map (fun i => (i.zero, i.size)) = some (some (.agg #[.pointer none, .int .i64 0, .int .i64 0]), 3) := by kernel_rfl
theorem rrg_res {fn : Func} (hr : fn.results = #[.cell 6 66, .tmp 7]) {w : World} {g : Nat} {a b c x : Value} {T : TypeId} (tmps : Array Value) (h : Blk w g [a, b, c] T) (h2 : tmps.getD 6 undef = .pointer (some ⟨g, 0, none⟩)) (h3 : tmps.getD 7 undef = x) :
    (results fn tmps).run Try.prog w = .ok (.tuple #[.agg #[a, b, c], x]) w := by
  have hl : (loadVar 66 ⟨g, 0, none⟩).run Try.prog w = .ok (.agg #[a, b, c]) w :=
    run_loadVar_row w g T 66 #[a, b, c] (0, 0) _ h Try.underlying66 rfl (by rw [(zero_of_info Try.infoR66).2]; rfl)
  rw [results_cell2 (p := 6) (u := 7) (ty := 66) hr, h2, h3]
  simp only [asAddr, Sem.run_pure, Result.andThen_ok, hl]
theorem some_within {a m n : Int} (h1 : 0 ≤ a) (h2 : 1 ≤ m) : someB a m n = withinB a m n := by
  unfold someB withinB
  apply decide_eq_decide.2
  omega
set_option maxRecDepth 100000 in
theorem rgof_any (B : Nat) (L : RL) (s : FS) (q : Nat) (a m : Int) (w : World) (h : RAt w B L s) (hq : L.bf = q) : Calls Try.prog 47 #[.pointer (some ⟨q, 0, none⟩), .int .i64 a, .int .i64 m] w (Pure (ofF (some ⟨q, 0, none⟩) a m L.n 0) w) := by
  have hn9 := h.n9
  have WI := Lib.hid (fun w => rfwithin_any a m L.n (by omega) w)
  have H0 := Lib.hid (h.alloc (.cells #[.pointer none, .int .i64 0, .int .i64 0] 66))
  have BB : Hid (Blk (w.alloc (.cells #[.pointer none, .int .i64 0, .int .i64 0] 66)) w.heap.size [.pointer none, .int .i64 0, .int .i64 0] 66) := Blk.new w [.pointer none, .int .i64 0, .int .i64 0] 66
  have KB : Hid (Keeps None w (w.alloc (.cells #[.pointer none, .int .i64 0, .int .i64 0] 66))) := (Keeps.refl None w).alloc _
  have OF : Hid (ofF (some ⟨q, 0, none⟩) a m L.n 0 = if someB a m L.n = true then .tuple #[.agg #[.pointer (some ⟨q, 0, none⟩), .int .i64 a, .int .i64 m], .int .i64 0] else .tuple #[rg0, .int .i64 1]) := by
    show ofF _ _ _ _ _ = _
    unfold ofF; rw [Int.zero_add]
  have c1 : (w.alloc (.cells #[.pointer none, .int .i64 0, .int .i64 0] 66)).cell? ⟨q, 1, none⟩ = some (.slice (some ⟨L.ge, 0, none⟩) L.n L.n) := by rw [← hq]; exact H0.out.f.cellD 1 _ rfl
  generalize L.n = n at *
  generalize L.ge = ge at *
  clear h
  by_cases g1 : a < 0
  · have d1 : decide (a < 0) = true := decide_eq_true g1
    have hs : someB a m n = false := by unfold someB; exact decide_eq_false (by omega)
    rw [hs] at OF
    clear hs
    --  the call of within is reached (its facts) or not, #2 what is told
    go_enter Try.func47, Try.ntmps47
    -- BB.out the cell's block
    have zz0 := Blk.cellD (BB.out) 0 _ rfl
    have zz1 := Blk.cellD (BB.out) 1 _ rfl
    have zz2 := Blk.cellD (BB.out) 2 _ rfl
    have zf0 := Blk.frozen (BB.out) 0
    have zf1 := Blk.frozen (BB.out) 1
    have zf2 := Blk.frozen (BB.out) 2
    go_wp2
    refine bodyPost_ret (rrg_res rfl _ (by first | exact BB.out | exact Blk.new _ [_, _, _] _ | exact ((BB.out.set 0 _).set 1 _).set 2 _) rfl rfl) rfl ?_
    rw [OF.out]
    exact ⟨rfl, by first | exact KB.out | exact (Keeps.refl None w).alloc _ | exact ((KB.out.setCell _ _ (fun h => absurd h (Nat.lt_irrefl _))).setCell _ _ (fun h => absurd h (Nat.lt_irrefl _))).setCell _ _ (fun h => absurd h (Nat.lt_irrefl _))⟩
  have d1 : decide (a < 0) = false := decide_eq_false g1
  by_cases g2 : m < 1
  · have d2 : decide (m < 1) = true := decide_eq_true g2
    have d2' : decide (m ≤ 0) = true := decide_eq_true (by omega)
    have hs : someB a m n = false := by unfold someB; exact decide_eq_false (by omega)
    rw [hs] at OF
    clear hs
    --  the call of within is reached (its facts) or not, #2 what is told
    go_enter Try.func47, Try.ntmps47
    -- BB.out the cell's block
    have zz0 := Blk.cellD (BB.out) 0 _ rfl
    have zz1 := Blk.cellD (BB.out) 1 _ rfl
    have zz2 := Blk.cellD (BB.out) 2 _ rfl
    have zf0 := Blk.frozen (BB.out) 0
    have zf1 := Blk.frozen (BB.out) 1
    have zf2 := Blk.frozen (BB.out) 2
    go_wp2
    refine bodyPost_ret (rrg_res rfl _ (by first | exact BB.out | exact Blk.new _ [_, _, _] _ | exact ((BB.out.set 0 _).set 1 _).set 2 _) rfl rfl) rfl ?_
    rw [OF.out]
    exact ⟨rfl, by first | exact KB.out | exact (Keeps.refl None w).alloc _ | exact ((KB.out.setCell _ _ (fun h => absurd h (Nat.lt_irrefl _))).setCell _ _ (fun h => absurd h (Nat.lt_irrefl _))).setCell _ _ (fun h => absurd h (Nat.lt_irrefl _))⟩
  have d2 : decide (m < 1) = false := decide_eq_false g2
  have d2' : decide (m ≤ 0) = false := decide_eq_false (by omega)
  rw [some_within (by omega) (by omega)] at OF
  cases hw : withinB a m n with
  | false =>
    rw [hw] at OF WI
    clear hw
    go_enter Try.func47, Try.ntmps47
    go_wp2_with fail
    refine (WI.out _).mono ?_
    rintro e w' ⟨rfl, rfl⟩
    -- BB.out the cell's block
    have zz0 := Blk.cellD (BB.out) 0 _ rfl
    have zz1 := Blk.cellD (BB.out) 1 _ rfl
    have zz2 := Blk.cellD (BB.out) 2 _ rfl
    have zf0 := Blk.frozen (BB.out) 0
    have zf1 := Blk.frozen (BB.out) 1
    have zf2 := Blk.frozen (BB.out) 2
    go_wp2
    refine bodyPost_ret (rrg_res rfl _ (by first | exact BB.out | exact Blk.new _ [_, _, _] _ | exact ((BB.out.set 0 _).set 1 _).set 2 _) rfl rfl) rfl ?_
    rw [OF.out]
    exact ⟨rfl, by first | exact KB.out | exact (Keeps.refl None w).alloc _ | exact ((KB.out.setCell _ _ (fun h => absurd h (Nat.lt_irrefl _))).setCell _ _ (fun h => absurd h (Nat.lt_irrefl _))).setCell _ _ (fun h => absurd h (Nat.lt_irrefl _))⟩
  | true =>
    rw [hw] at OF WI
    clear hw
    go_enter Try.func47, Try.ntmps47
    go_wp2_with fail
    refine (WI.out _).mono ?_
    rintro e w' ⟨rfl, rfl⟩
    -- BB.out the cell's block
    have zz0 := Blk.cellD (BB.out) 0 _ rfl
    have zz1 := Blk.cellD (BB.out) 1 _ rfl
    have zz2 := Blk.cellD (BB.out) 2 _ rfl
    have zf0 := Blk.frozen (BB.out) 0
    have zf1 := Blk.frozen (BB.out) 1
    have zf2 := Blk.frozen (BB.out) 2
    go_wp2
    refine bodyPost_ret (rrg_res rfl _ (by first | exact BB.out | exact Blk.new _ [_, _, _] _ | exact ((BB.out.set 0 _).set 1 _).set 2 _) rfl rfl) rfl ?_
    rw [OF.out]
    exact ⟨rfl, by first | exact KB.out | exact (Keeps.refl None w).alloc _ | exact ((KB.out.setCell _ _ (fun h => absurd h (Nat.lt_irrefl _))).setCell _ _ (fun h => absurd h (Nat.lt_irrefl _))).setCell _ _ (fun h => absurd h (Nat.lt_irrefl _))⟩
end Go.Proofs.Ytngofnlhbhfigaa
