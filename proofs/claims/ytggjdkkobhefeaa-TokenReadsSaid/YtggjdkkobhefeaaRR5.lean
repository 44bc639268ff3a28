/- The reference's Unpack of tokens, walked. -/
import Derived.Test.YtggjdkkobhefeaaRRP2
import Derived.Test.YtggjdkkobhefeaaStrEq
import Derived.Test.YtggjdkkobhefeaaMix
namespace Go.Proofs.Ytggjdkkobhefeaa
open Go.RowKit

section Off
variable {P : Program} {ops : Array Oper} {C : World → Prop} {Q : Exit → Act → World → Prop} {E : List Nat}
/-- An operation that a guard bars. -/
theorem wpMix_off {k : Nat} {o : Oper} {rest : List Oper} {a : Act} {w : World} (h : wpQuiet P ops C (fun a' => wpMix P ops C E Q (k + 1) rest a' w) [o] a) (hw : Region.wanted o (yielded ops a.tmps) = false) : wpMix P ops C E Q k (o :: rest) a w := by
  rw [wpMix]
  simp only [hw]
  unfold wpQuiet at h
  simp only [hw] at h
  exact h
end Off
theorem packL_byte {ts : List Tok} (h : rightB ts 0 = true) (hw : ∀ t ∈ ts, TokWf t) : ∀ z ∈ packL ts, 0 ≤ z ∧ z ≤ 255 := by
  have e : packL ts = (eRow ts (cst0, ms0)).1.l := if_pos h
  rw [e]
  exact (row_ok ts cst0 ms0 ⟨0, 0, 0⟩ (right_tv ts 0 h hw) ROk.start PP.start COk.start).1.byte
theorem rnewN_len (n : Nat) (h : 1 ≤ n) : (rnewN n).length = n := by simp [rnewN]; omega
theorem rs00_ok {zs : List Int} (h : ∀ z ∈ zs, 0 ≤ z ∧ z ≤ 255) : ROkR (rs00 zs) := ⟨DOk.new, h, rnewN_len (2 ^ 8) (by decide), rnewN_len (2 ^ 8) (by decide), rnewN_len (2 ^ 6) (by decide), .inl rfl⟩
set_option maxRecDepth 100000 in
set_option maxHeartbeats 3200000 in
theorem rtunpack_any (A : Option Addr) (n cap : Nat) (plain : Int) (zs : List Int) (W : World) (h : Bs W A n cap zs) :
    Calls Try.prog 25 #[.slice A n cap, .int .i64 plain] W (Unpacked W (unpRF zs plain)) := by
  have hle := h.le
  have hmx := h.max
  have HB := Lib.hid h
  clear h
  by_cases g1 : plain < 0
  · have d1 : decide (plain < 0) = true := decide_eq_true g1
    have RES : Hid (unpRF zs plain = ([], 1)) := if_pos (.inl g1)
    go_enter Try.func25, Try.ntmps25
    -- nothing is told, in world Keeps.refl _ _
    go_wp2
    go_ret2
    exact ⟨_, by rw [RES.out]; rfl, by rw [RES.out]; exact OwnT.nil _ _, by rw [RES.out]; simp, Keeps.refl _ _⟩
  have d1 : decide (plain < 0) = false := decide_eq_false g1
  by_cases g2 : 8192 < plain
  · have d2 : decide (8192 < plain) = true := decide_eq_true g2
    have RES : Hid (unpRF zs plain = ([], 1)) := if_pos (.inr g2)
    go_enter Try.func25, Try.ntmps25
    -- nothing is told, in world Keeps.refl _ _
    go_wp2
    go_ret2
    exact ⟨_, by rw [RES.out]; rfl, by rw [RES.out]; exact OwnT.nil _ _, by rw [RES.out]; simp, Keeps.refl _ _⟩
  have d2 : decide (8192 < plain) = false := decide_eq_false g2
  obtain ⟨p, rfl⟩ : ∃ p : Nat, plain = p := ⟨plain.toNat, by omega⟩
  have p8 : p ≤ 8192 := by omega
  obtain ⟨res, hres⟩ : ∃ x, uF (p : Int) p (moreF (rs00 zs)) 0 [] = x := ⟨_, rfl⟩
  have RU0 : Hid (unpRF zs p = if (res.2 = true ∨ rightB res.1 0 = false ∨ ((plainL res.1).length : Int) ≠ (p : Int) ∨ packL res.1 ≠ zs) then ([], 11) else (res.1, 0)) := by
    show _ = _
    unfold unpRF
    rw [if_neg (by omega), Int.toNat_natCast, hres]
  have WFR : Hid (∀ t ∈ res.1, TokWf t) := by
    show ∀ t ∈ res.1, TokWf t
    rw [← hres]; exact uF_wf _ _ _ _ _ (fun t ht => by cases ht)
  have HRES := Lib.hid hres
  have ROK0 := Lib.hid (rs00_ok HB.out.byte)
  have NT := Lib.hid (fun b w => rnew_any b w)
  clear hres g1 g2
  go_enter Try.func25, Try.ntmps25
  go_wp2_with fail
  refine (rdnew_any W).mono ?_
  rintro e w3 ⟨rfl, c3, k3⟩
  have C3 := Lib.hid c3
  have K3 := Lib.hid k3
  have L3 := Lib.hid c3.lt
  clear c3 k3
  go_wp2_with fail
  refine (NT.out 8 w3).mono ?_
  rintro e w4 ⟨rfl, t4, k4⟩
  have C4 := Lib.hid (C3.out.keeps k4 (fun h => h))
  have T4 := Lib.hid t4
  have K4 := Lib.hid (K3.out.trans k4 (T := None) (fun _ h => h) (fun _ _ h => h))
  have L4 := Lib.hid t4.2.1.lt
  clear t4 k4 C3 K3
  go_wp2_with fail
  refine (NT.out 8 w4).mono ?_
  rintro e w5 ⟨rfl, t5, k5⟩
  have C5 := Lib.hid (C4.out.keeps k5 (fun h => h))
  have U5 := Lib.hid (T4.out.keeps k5 (fun h => h) (fun h => h))
  have T5 := Lib.hid t5
  have K5 := Lib.hid (K4.out.trans k5 (T := None) (fun _ h => h) (fun _ _ h => h))
  have L5 := Lib.hid t5.2.1.lt
  clear t5 k5 C4 K4 T4
  go_wp2_with fail
  refine (NT.out 6 w5).mono ?_
  rintro e w6 ⟨rfl, t6, k6⟩
  have C6 := Lib.hid (C5.out.keeps k6 (fun h => h))
  have U6 := Lib.hid (U5.out.keeps k6 (fun h => h) (fun h => h))
  have V6 := Lib.hid (T5.out.keeps k6 (fun h => h) (fun h => h))
  have T6 := Lib.hid t6
  have K6 := Lib.hid (K5.out.trans k6 (T := None) (fun _ h => h) (fun _ _ h => h))
  have L6 := Lib.hid t6.2.1.lt
  clear t6 k6 C5 K5 T5 U5 NT
  go_wp2_with fail
  have KA := (Keeps.refl None w6).alloc (.cells #[.pointer (some ⟨W.heap.size, 0, none⟩), .slice A n cap, .pointer (some ⟨w3.heap.size, 0, none⟩), .pointer (some ⟨w4.heap.size, 0, none⟩), .pointer (some ⟨w5.heap.size, 0, none⟩), .int .i64 1024, .int .i64 1024, .int .i64 0, .bool false] 97)
  have RA7 : Hid (RRAt (w6.alloc (.cells #[.pointer (some ⟨W.heap.size, 0, none⟩), .slice A n cap, .pointer (some ⟨w3.heap.size, 0, none⟩), .pointer (some ⟨w4.heap.size, 0, none⟩), .pointer (some ⟨w5.heap.size, 0, none⟩), .int .i64 1024, .int .i64 1024, .int .i64 0, .bool false] 97)) ⟨W.heap.size, w3.heap.size, w3.heap.size + 1, w4.heap.size, w4.heap.size + 1, w5.heap.size, w5.heap.size + 1, w6.heap.size⟩ (rs00 zs) A n cap) :=
    ⟨Blk.new w6 _ _, (HB.out.keeps K6.out (fun _ _ _ _ _ h => h)).keeps KA (fun _ _ _ _ _ h => h), fun hn b off e => by obtain ⟨b', off', e', hb', -⟩ := HB.out.at_ hn; rw [e'] at e; cases e; exact hb', C6.out.keeps KA (fun h => h), U6.out.keeps KA (fun h => h) (fun h => h), V6.out.keeps KA (fun h => h) (fun h => h), T6.out.keeps KA (fun h => h) (fun h => h),
      ⟨L3.out, by show w3.heap.size < w3.heap.size + 1; omega, L4.out, by show w4.heap.size < w4.heap.size + 1; omega, L5.out, by show w5.heap.size < w5.heap.size + 1; omega, L6.out⟩⟩
  have KK := Lib.hid (K6.out.alloc (.cells #[.pointer (some ⟨W.heap.size, 0, none⟩), .slice A n cap, .pointer (some ⟨w3.heap.size, 0, none⟩), .pointer (some ⟨w4.heap.size, 0, none⟩), .pointer (some ⟨w5.heap.size, 0, none⟩), .int .i64 1024, .int .i64 1024, .int .i64 0, .bool false] 97))
  obtain ⟨w7, hw7⟩ : ∃ x, w6.alloc (.cells #[.pointer (some ⟨W.heap.size, 0, none⟩), .slice A n cap, .pointer (some ⟨w3.heap.size, 0, none⟩), .pointer (some ⟨w4.heap.size, 0, none⟩), .pointer (some ⟨w5.heap.size, 0, none⟩), .int .i64 1024, .int .i64 1024, .int .i64 0, .bool false] 97) = x := ⟨_, rfl⟩
  rw [hw7] at RA7 KK
  rw [hw7]
  clear hw7 KA
  obtain ⟨L, hL⟩ : ∃ L : RRL, (⟨W.heap.size, w3.heap.size, w3.heap.size + 1, w4.heap.size, w4.heap.size + 1, w5.heap.size, w5.heap.size + 1, w6.heap.size⟩ : RRL) = L := ⟨_, rfl⟩
  rw [hL] at RA7
  have hrb : w6.heap.size = L.rb := by rw [← hL]
  have hdb : W.heap.size = L.db := by rw [← hL]
  have DBW := Lib.hid hdb
  rw [hrb]
  clear hL hrb hdb K6 C6 T6 U6 V6 L3 L4 L5 L6
  have ORD := Lib.hid RA7.out.ord
  have LOWB : Hid (W.heap.size ≤ L.rb + 1) := by show _ ≤ _; have := DBW.out; have := ORD.out; omega
  refine (rmore_any L (rs00 zs) A n cap w7 RA7.out ROK0.out).mono ?_
  rintro e w8 ⟨A8, n8, c8', rfl, ra8, k8⟩
  have RA8 := Lib.hid ra8
  have K8 : Hid (Keeps None W w8) := KK.out.trans k8 (T := None) (fun _ h => h) (fun k hk e => by have e : k = L.db ∨ k = L.rb := e; have := DBW.out; have := ORD.out; omega)
  have LL8 : Hid (L.rb < w8.heap.size) := ra8.less
  have ROK8 := Lib.hid ROK0.out.more
  obtain ⟨s0, hs0⟩ : ∃ x, moreF (rs00 zs) = x := ⟨_, rfl⟩
  rw [hs0] at RA8 ROK8 HRES
  clear ra8 k8 hs0 RA7 KK ROK0
  go_wp2
  go_loopw [7, 8] (fun lv nv wr => ∃ (f mm n' c' : Nat) (s : RS) (out : List Tok) (A' : Option Addr), nv = .int .i64 (mm : Int) ∧ p ≤ mm + f ∧ out.length ≤ mm ∧ mm ≤ p + 256 ∧ uF (p : Int) f s (mm : Int) out = res ∧ RRAt wr L s A' n' c' ∧ ROkR s ∧ OwnT wr (L.rb + 1) lv out ∧ L.rb < wr.heap.size ∧ Keeps None W wr) (fun _ nv _ => p - (intOf nv).toNat)
  case atStart => exact ⟨p, 0, n8, c8', s0, [], A8, rfl, by omega, Nat.zero_le _, by omega, HRES.out, RA8.out, ROK8.out, OwnT.nil _ _, LL8.out, K8.out⟩
  case round =>
    clear RA8 ROK8 LL8 K8 HRES
    obtain ⟨f, mm, n', c', s, out, A', rfl, hpf, hol, hmm, hu, hra, hok, ho, hll, hk⟩ := hrel
    obtain ⟨wv, rfl⟩ : ∃ x, x = wr := ⟨_, rfl⟩
    have RA := Lib.hid hra
    have OK := Lib.hid hok
    have HO := Lib.hid ho
    have HU := Lib.hid hu
    have LL := Lib.hid hll
    have HK := Lib.hid hk
    have HBS := Lib.hid (HB.out.keeps HK.out (fun _ _ _ _ _ h => h))
    have HC := Lib.hid hra.cc
    clear hra hok ho hu hll hk
    have c8 : wv.cell? ⟨L.rb, 8, none⟩ = some (.bool s.bad) := RA.out.cc.cellD 8 _ rfl
    have PF : Hid (p ≤ mm + f) := hpf
    have OL : Hid (out.length ≤ 1000000) := show out.length ≤ 1000000 by omega
    clear hpf
    by_cases hlt : mm < p
    · have e1 : decide ((mm : Int) < (p : Int)) = true := decide_eq_true (by omega)
      cases hbad : s.bad with
      | true =>
        have ER : (out, s.bad) = res := by
          have := HU.out
          cases f with
          | zero => exact this
          | succ f => unfold uF at this; rw [if_neg (by rw [hbad]; simp)] at this; exact this
        have RES : Hid (unpRF zs p = ([], 11)) := by show _ = _; rw [RU0.out, ← ER, hbad]; exact if_pos (.inl rfl)
        rw [hbad] at c8
        clear ER RU0 HU hbad
        go_wp2
        go_quiet (fail)
        -- nothing is told, in world HK.out.drewN _
        go_wp2
        go_ret2
        exact ⟨_, by rw [RES.out]; rfl, by rw [RES.out]; exact OwnT.nil _ _, by rw [RES.out]; simp, HK.out.drewN _⟩
      | false =>
        obtain ⟨f, rfl⟩ : ∃ g, f = g + 1 := ⟨f - 1, by have := PF.out; omega⟩
        have HU2 : Hid (uF (p : Int) f (tokR s).2 ((mm : Int) + longT (tokR s).1) (out ++ [(tokR s).1]) = res) := by
          have := HU.out
          unfold uF at this
          rw [if_pos ⟨by omega, hbad⟩] at this
          exact this
        rw [hbad] at c8
        have TK := Lib.hid (rtok_any L s A' n' c' wv RA.out OK.out)
        have OK2 := Lib.hid OK.out.tok
        have bd := tokR_bd s
        have lg := tokR_long s
        have WT := Lib.hid (tokR_wf s)
        obtain ⟨⟨⟨tn, td, tb⟩, s4⟩, h4⟩ : ∃ x, tokR s = x := ⟨_, rfl⟩
        rw [h4] at HU2 TK bd lg OK2 WT
        dsimp only at HU2 bd lg OK2 WT
        obtain ⟨ln, hln⟩ : ∃ x : Nat, longT ⟨tn, td, tb⟩ = x := ⟨(longT ⟨tn, td, tb⟩).toNat, by omega⟩
        have hlt2 : (tn = 0 ∧ ln = 1) ∨ (tn = ln ∧ 2 ≤ ln) := by
          unfold longT at hln
          split at hln
          · rename_i h; have h : tn = 0 := h; exact .inl ⟨h, by omega⟩
          · rename_i h; have h : tn ≠ 0 := h; have hln : tn = ln := hln; exact .inr ⟨hln, by omega⟩
        rw [hln] at HU2 lg
        have l1 : 1 ≤ ln := by omega
        have l2 : ln ≤ 257 := by omega
        clear h4 bd lg hln HU hbad
        go_wp2_with fail
        refine TK.out.mono ?_
        rintro e wt ⟨A4, n4, c4, rfl, ra4, k4⟩
        have RA4 := Lib.hid ra4
        have O4 := Lib.hid (HO.out.keeps k4 (fun b hb e => by have e : _ ∧ b ≤ L.rb := e; have := (HO.out.block hb).1; omega))
        have SZ4 : Hid (L.rb + 1 ≤ wt.heap.size) := Nat.le_trans LL.out k4.size
        have K4 : Hid (Keeps None W wt) := HK.out.trans k4 (T := None) (fun _ h => h) (fun k hk e => by have e : L.db ≤ k ∧ _ := e; have := DBW.out; omega)
        clear ra4 k4 TK RA OK HC HBS c8 HO HK
        unfold tagg
        dsimp only
        have KX : Hid (Keeps None wt (wt.alloc (.cells #[.int .i64 tn, .int .i64 td, .int .u8 tb] 43))) := (Keeps.refl None wt).alloc _
        have BX : Hid (Blk (wt.alloc (.cells #[.int .i64 tn, .int .i64 td, .int .u8 tb] 43)) wt.heap.size (tcell ⟨tn, td, tb⟩) 43) := Blk.new wt (tcell ⟨tn, td, tb⟩) 43
        go_wp2_with (at_builtin; refine Hid.out ?_)
        refine Lib.hid ?_
        refine wpList_append_tok (ts := out) (B := L.rb + 1) (T := 43) ⟨tn, td, tb⟩ ((O4.out.keeps KX.out (fun _ _ h => h)).keeps ((Keeps.refl None _).alloc _) (fun _ _ h => h)) (Blk.newAt (b := wt.heap.size + 1) (by simp) (tcell ⟨tn, td, tb⟩) 43) OL.out (Nat.le_trans SZ4.out (Nat.le_trans KX.out.size ((Keeps.refl None _).alloc _).size)) rfl rfl rfl rfl rfl ?_
        intro v9 w9 o9 k9
        have KY := Lib.hid ((KX.out.alloc (.cells #[.int .i64 tn, .int .i64 td, .int .u8 tb] 43)).trans k9 (T := fun k => u7.ownBlock = some k) (fun _ h => h.elim) (fun _ _ h => h))
        have NOB : Hid (∀ k, u7.ownBlock = some k → L.rb + 1 ≤ k ∧ k < wt.heap.size) := fun k hk => O4.out.block hk
        have K9 : Hid (Keeps None W w9) := K4.out.trans KY.out (T := None) (fun _ h => h) (fun k hk e => by have := (NOB.out k e).1; have := LOWB.out; omega)
        have RA9 := Lib.hid (RA4.out.keeps KY.out (fun k hk e => by have := (NOB.out k e).1; omega))
        have B9 := Lib.hid ((((Keeps.refl None _).alloc (.cells #[.int .i64 tn, .int .i64 td, .int .u8 tb] 43)).trans k9 (T := fun k => u7.ownBlock = some k) (fun _ h => h.elim) (fun _ _ h => h)).blk BX.out (fun e => by have := (NOB.out _ e).2; omega))
        have O9 := Lib.hid o9
        have LL9 : Hid (L.rb < w9.heap.size) := Nat.lt_of_lt_of_le SZ4.out KY.out.size
        have c0 := B9.out.cellD 0 _ rfl
        clear o9 k9 KY K4 RA4 BX KX O4 SZ4
        rcases hlt2 with ⟨rfl, rfl⟩ | ⟨rfl, l3⟩
        · go_wp2
          go_roundw
          case rel => exact ⟨f, mm + 1, n4, c4, s4, _, A4, by go_num, by have := PF.out; omega, by simp; omega, by omega, HU2.out, RA9.out, OK2.out, O9.out, LL9.out, K9.out⟩
          case measure => simp [intOf]; omega
        · have e3 : ((ln : Int) == 0) = false := by simp; omega
          go_wp2
          go_roundw
          case rel => exact ⟨f, mm + ln, n4, c4, s4, _, A4, by go_num, by have := PF.out; omega, by simp; omega, by omega, HU2.out, RA9.out, OK2.out, O9.out, LL9.out, K9.out⟩
          case measure => simp [intOf]; omega
    · have e1 : decide ((mm : Int) < (p : Int)) = false := decide_eq_false (by omega)
      have ER : (out, s.bad) = res := by
        have := HU.out
        cases f with
        | zero => exact this
        | succ f => unfold uF at this; rw [if_neg (by omega)] at this; exact this
      have RU : Hid (unpRF zs p = if (s.bad = true ∨ rightB out 0 = false ∨ ((plainL out).length : Int) ≠ (p : Int) ∨ packL out ≠ zs) then ([], 11) else (out, 0)) := by show _ = _; rw [RU0.out, ← ER]
      have wf : ∀ t ∈ out, TokWf t := by have := WFR.out; rw [← ER] at this; exact this
      obtain ⟨A7, c7', rfl, t7, -⟩ := HO.out.shape wf
      have T7 := Lib.hid t7
      have O7 := Lib.hid HO.out
      clear ER RU0 HU wf HO t7 RA OK
      go_wp2
      -- behind the loop, in wv: out, sb (bad)
      cases hbad : s.bad with
      | true =>
        have RES : Hid (unpRF zs p = ([], 11)) := by show _ = _; rw [RU.out, hbad]; exact if_pos (.inl rfl)
        rw [hbad] at c8
        clear RU hbad
        go_wp2
        go_quiet (fail)
        -- nothing is told, in world HK.out.drewN _
        go_wp2
        go_ret2
        exact ⟨_, by rw [RES.out]; rfl, by rw [RES.out]; exact OwnT.nil _ _, by rw [RES.out]; simp, HK.out.drewN _⟩
      | false =>
      rw [hbad] at c8
      have HC := Lib.hid (show Blk wv L.rb [.pointer (some ⟨L.db, 0, none⟩), .slice A' n' c', .pointer (some ⟨L.b1, 0, none⟩), .pointer (some ⟨L.b2, 0, none⟩), .pointer (some ⟨L.b3, 0, none⟩), .int .i64 s.p0, .int .i64 s.p1, .int .i64 s.was, .bool false] 97 by have := HC.out; unfold rrcells at this; rw [hbad] at this; exact this)
      have RU : Hid (unpRF zs p = if ((false : Bool) = true ∨ rightB out 0 = false ∨ ((plainL out).length : Int) ≠ (p : Int) ∨ packL out ≠ zs) then ([], 11) else (out, 0)) := by show _ = _; rw [RU.out, hbad]
      cases hr : rightB out 0 with
      | false =>
        have RES : Hid (unpRF zs p = ([], 11)) := by show _ = _; rw [RU.out, hr]; exact if_pos (.inr (.inl rfl))
        have RT := Lib.hid (fun w' h' => rtright_any A7 out.length c7' out w' h')
        rw [hr] at RT
        clear RU hr hbad
        go_wp2
        obtain ⟨mS, mh⟩ : ∃ S : World → Prop, ∀ w', S w' ↔ (w'.cell? ⟨L.rb, 8, none⟩ = some (.bool false)) := ⟨_, fun _ => Iff.rfl⟩
        have mk0 : ∀ x : Memb mS, x.at_.cell? ⟨L.rb, 8, none⟩ = some (.bool false) := fun x => ((mh _).1 x.is)
        have mn : Nonempty (Memb mS) := ⟨⟨(wv).drew, (mh _).2 (c8)⟩⟩
        have mH := Lib.hid mh
        clear mh
        refine wp_region_mix [6, 11, 18] (InS mS) (by kernel_rfl) (by kernel_rfl) (InS.mk ((mH.out _).2 (c8))) ?_
        refine wpMix_seg 6 (by kernel_rfl) (by decide) ?_
        simp only [List.take_succ_cons, List.take_zero, List.drop_succ_cons, List.drop_zero]
        repeat (go_big_quiet_step (fail))
        refine wpQuiet_nil ?_
        refine wpMix_eff (by kernel_rfl) ?_
        go_wp2_with fail
        refine (RT.out _ T7.out.drew).mono ?_
        rintro e w2 ⟨rfl, k2⟩
        have C2 := Lib.hid (((Keeps.refl None wv).drew.trans k2 (T := None) (fun _ h => h) (fun _ _ h => h)).blk HC.out (fun h => h))
        have K2 := Lib.hid (HK.out.drew.trans k2 (T := None) (fun _ h => h) (fun _ _ h => h))
        clear k2
        go_wp2
        refine MixK.on (InS.mk ((mH.out _).2 ((C2.out.cellD 8 _ rfl)))) ?_
        refine wpMix_seg 4 (by kernel_rfl) (by decide) ?_
        simp only [List.take_succ_cons, List.take_zero, List.drop_succ_cons, List.drop_zero]
        repeat (go_big_quiet_step (fail))
        refine wpQuiet_nil ?_
        refine wpMix_off ?_ (by kernel_rfl)
        repeat (go_big_quiet_step (fail))
        refine wpQuiet_nil ?_
        refine wpMix_seg 6 (by kernel_rfl) (by decide) ?_
        simp only [List.take_succ_cons, List.take_zero, List.drop_succ_cons, List.drop_zero]
        repeat (go_big_quiet_step (fail))
        refine wpQuiet_nil ?_
        refine wpMix_off ?_ (by kernel_rfl)
        repeat (go_big_quiet_step (fail))
        refine wpQuiet_nil ?_
        refine wpMix_seg 5 (by kernel_rfl) (by decide) ?_
        simp only [List.take_succ_cons, List.take_zero, List.drop_succ_cons, List.drop_zero]
        repeat (go_big_quiet_step (fail))
        refine wpQuiet_nil ?_
        refine wpMix_nil ?_
        clear mk0 mn mH
        -- nothing is told, in world K2.out
        go_wp2
        go_ret2
        exact ⟨_, by rw [RES.out]; rfl, by rw [RES.out]; exact OwnT.nil _ _, by rw [RES.out]; simp, K2.out⟩
      | true =>
      have RT := Lib.hid (fun w' h' => rtright_any A7 out.length c7' out w' h')
      rw [hr] at RT
      obtain ⟨np, hnp⟩ : ∃ x, (plainL out).length = x := ⟨_, rfl⟩
      have NP := Lib.hid hnp
      by_cases hpl : np = p
      · have PB := packL_byte hr T7.out.wf
        have QZ := strOf_beq PB HBS.out.byte
        obtain ⟨sp, hsp⟩ : ∃ x, strOf (packL out) = x := ⟨_, rfl⟩
        obtain ⟨sz, hsz⟩ : ∃ x, strOf zs = x := ⟨_, rfl⟩
        rw [hsp, hsz] at QZ
        have HSP := Lib.hid hsp
        have HSZ := Lib.hid hsz
        subst hpl
        by_cases hpk : packL out = zs
        · have RES : Hid (unpRF zs np = (out, 0)) := by show _ = _; rw [RU.out, hr]; exact if_neg (by simp [hnp, hpk])
          rw [decide_eq_true hpk] at QZ
          clear RU hr hbad hpk hnp hsp hsz
          go_wp2
          obtain ⟨mS, mh⟩ : ∃ S : World → Prop, ∀ w', S w' ↔ (w'.cell? ⟨L.rb, 8, none⟩ = some (.bool false) ∧ ((convert 32 9 (.slice A n cap)).run Try.prog w' = .ok (.string sz) w')) := ⟨_, fun _ => Iff.rfl⟩
          have mk0 : ∀ x : Memb mS, x.at_.cell? ⟨L.rb, 8, none⟩ = some (.bool false) := fun x => ((mh _).1 x.is).1
          have mk1 : ∀ x : Memb mS, (convert 32 9 (.slice A n cap)).run Try.prog x.at_ = .ok (.string sz) x.at_ := fun x => ((mh _).1 x.is).2
          have mn : Nonempty (Memb mS) := ⟨⟨(wv).drew, (mh _).2 ⟨c8, (HSZ.out ▸ run_str HBS.out.drew)⟩⟩⟩
          have mH := Lib.hid mh
          clear mh
          refine wp_region_mix [6, 11, 18, 19] (InS mS) (by kernel_rfl) (by kernel_rfl) (InS.mk ((mH.out _).2 ⟨c8, (HSZ.out ▸ run_str HBS.out.drew)⟩)) ?_
          refine wpMix_seg 6 (by kernel_rfl) (by decide) ?_
          simp only [List.take_succ_cons, List.take_zero, List.drop_succ_cons, List.drop_zero]
          repeat (first | go_big_quiet_step (fail) | (go_big_quiet_want; first | refine quiet_conv mk1 rfl rfl rfl (by simp only [Act.put, List.setIfInBounds_toArray, List.set_cons_succ, List.set_cons_zero]; rfl) ?_; go_big_quiet_on))
          refine wpQuiet_nil ?_
          refine wpMix_eff (by kernel_rfl) ?_
          go_wp2_with fail
          refine (RT.out _ T7.out.drew).mono ?_
          rintro e w2 ⟨rfl, k2⟩
          have C2 := Lib.hid (((Keeps.refl None wv).drew.trans k2 (T := None) (fun _ h => h) (fun _ _ h => h)).blk HC.out (fun h => h))
          have K2 := Lib.hid (HK.out.drew.trans k2 (T := None) (fun _ h => h) (fun _ _ h => h))
          have T2 := Lib.hid (T7.out.drew.later k2)
          have B2 := Lib.hid (HBS.out.drew.keeps k2 (fun _ _ _ _ _ h => h))
          have O2 := Lib.hid (O7.out.drew.keeps k2 (fun _ _ h => h))
          clear k2
          go_wp2
          refine MixK.on (InS.mk ((mH.out _).2 (⟨C2.out.cellD 8 _ rfl, HSZ.out ▸ run_str B2.out⟩))) ?_
          refine wpMix_seg 4 (by kernel_rfl) (by decide) ?_
          simp only [List.take_succ_cons, List.take_zero, List.drop_succ_cons, List.drop_zero]
          repeat (first | go_big_quiet_step (fail) | (go_big_quiet_want; first | refine quiet_conv mk1 rfl rfl rfl (by simp only [Act.put, List.setIfInBounds_toArray, List.set_cons_succ, List.set_cons_zero]; rfl) ?_; go_big_quiet_on))
          refine wpQuiet_nil ?_
          refine wpMix_eff (by kernel_rfl) ?_
          go_wp2_with fail
          refine (rtplain_any A7 _ c7' _ _ T2.out).mono ?_
          rintro e w3 ⟨v3, rfl, o3, k3⟩
          obtain ⟨A3, c3, rfl, b3, -⟩ := o3.shape
          have l3 := b3.le
          have m3 := b3.max
          rw [NP.out] at l3 ⊢
          have C3 := Lib.hid (k3.blk C2.out (fun h => h))
          have K3 := Lib.hid (K2.out.trans k3 (T := None) (fun _ h => h) (fun _ _ h => h))
          have T3 := Lib.hid (T2.out.later k3)
          have B3 := Lib.hid (B2.out.keeps k3 (fun _ _ _ _ _ h => h))
          have O3 := Lib.hid (O2.out.keeps k3 (fun _ _ h => h))
          clear o3 k3 b3
          go_wp2
          refine MixK.on (InS.mk ((mH.out _).2 (⟨C3.out.cellD 8 _ rfl, HSZ.out ▸ run_str B3.out⟩))) ?_
          refine wpMix_seg 6 (by kernel_rfl) (by decide) ?_
          simp only [List.take_succ_cons, List.take_zero, List.drop_succ_cons, List.drop_zero]
          repeat (first | go_big_quiet_step (fail) | (go_big_quiet_want; first | refine quiet_conv mk1 rfl rfl rfl (by simp only [Act.put, List.setIfInBounds_toArray, List.set_cons_succ, List.set_cons_zero]; rfl) ?_; go_big_quiet_on))
          refine wpQuiet_nil ?_
          refine wpMix_eff (by kernel_rfl) ?_
          go_wp2_with fail
          refine (rtpack_any A7 _ c7' _ _ T3.out).mono ?_
          rintro e w4 ⟨v4, rfl, o4, k4⟩
          obtain ⟨A4, c4, rfl, b4, -⟩ := o4.shape
          have C4 := Lib.hid (k4.blk C3.out (fun h => h))
          have K9 := Lib.hid (K3.out.trans k4 (T := None) (fun _ h => h) (fun _ _ h => h))
          have B4 := Lib.hid (B3.out.keeps k4 (fun _ _ _ _ _ h => h))
          have O9 := Lib.hid (O3.out.keeps k4 (fun _ _ h => h))
          have sd := run_str b4
          rw [HSP.out] at sd
          clear o4 k4 b4
          go_wp2
          refine MixK.on (InS.mk ((mH.out _).2 (⟨C4.out.cellD 8 _ rfl, HSZ.out ▸ run_str B4.out⟩))) ?_
          refine wpMix_eff (by kernel_rfl) ?_
          go_wp2
          refine MixK.on (InS.mk ((mH.out _).2 (⟨C4.out.cellD 8 _ rfl, HSZ.out ▸ run_str B4.out⟩))) ?_
          refine wpMix_seg 4 (by kernel_rfl) (by decide) ?_
          simp only [List.take_succ_cons, List.take_zero, List.drop_succ_cons, List.drop_zero]
          repeat (first | go_big_quiet_step (fail) | (go_big_quiet_want; first | refine quiet_conv mk1 rfl rfl rfl (by simp only [Act.put, List.setIfInBounds_toArray, List.set_cons_succ, List.set_cons_zero]; rfl) ?_; go_big_quiet_on))
          refine wpQuiet_nil ?_
          refine wpMix_nil ?_
          clear mk0 mk1 mn mH
          go_wp2
          go_ret2
          exact ⟨_, by rw [RES.out]; rfl, by rw [RES.out]; exact (O9.out).lower LOWB.out, by rw [RES.out]; exact T7.out.wf, K9.out⟩
        · have RES : Hid (unpRF zs np = ([], 11)) := by show _ = _; rw [RU.out, hr]; exact if_pos (.inr (.inr (.inr hpk)))
          rw [decide_eq_false hpk] at QZ
          clear RU hr hbad hpk hnp hsp hsz
          go_wp2
          obtain ⟨mS, mh⟩ : ∃ S : World → Prop, ∀ w', S w' ↔ (w'.cell? ⟨L.rb, 8, none⟩ = some (.bool false) ∧ ((convert 32 9 (.slice A n cap)).run Try.prog w' = .ok (.string sz) w')) := ⟨_, fun _ => Iff.rfl⟩
          have mk0 : ∀ x : Memb mS, x.at_.cell? ⟨L.rb, 8, none⟩ = some (.bool false) := fun x => ((mh _).1 x.is).1
          have mk1 : ∀ x : Memb mS, (convert 32 9 (.slice A n cap)).run Try.prog x.at_ = .ok (.string sz) x.at_ := fun x => ((mh _).1 x.is).2
          have mn : Nonempty (Memb mS) := ⟨⟨(wv).drew, (mh _).2 ⟨c8, (HSZ.out ▸ run_str HBS.out.drew)⟩⟩⟩
          have mH := Lib.hid mh
          clear mh
          refine wp_region_mix [6, 11, 18, 19] (InS mS) (by kernel_rfl) (by kernel_rfl) (InS.mk ((mH.out _).2 ⟨c8, (HSZ.out ▸ run_str HBS.out.drew)⟩)) ?_
          refine wpMix_seg 6 (by kernel_rfl) (by decide) ?_
          simp only [List.take_succ_cons, List.take_zero, List.drop_succ_cons, List.drop_zero]
          repeat (first | go_big_quiet_step (fail) | (go_big_quiet_want; first | refine quiet_conv mk1 rfl rfl rfl (by simp only [Act.put, List.setIfInBounds_toArray, List.set_cons_succ, List.set_cons_zero]; rfl) ?_; go_big_quiet_on))
          refine wpQuiet_nil ?_
          refine wpMix_eff (by kernel_rfl) ?_
          go_wp2_with fail
          refine (RT.out _ T7.out.drew).mono ?_
          rintro e w2 ⟨rfl, k2⟩
          have C2 := Lib.hid (((Keeps.refl None wv).drew.trans k2 (T := None) (fun _ h => h) (fun _ _ h => h)).blk HC.out (fun h => h))
          have K2 := Lib.hid (HK.out.drew.trans k2 (T := None) (fun _ h => h) (fun _ _ h => h))
          have T2 := Lib.hid (T7.out.drew.later k2)
          have B2 := Lib.hid (HBS.out.drew.keeps k2 (fun _ _ _ _ _ h => h))
          have O2 := Lib.hid (O7.out.drew.keeps k2 (fun _ _ h => h))
          clear k2
          go_wp2
          refine MixK.on (InS.mk ((mH.out _).2 (⟨C2.out.cellD 8 _ rfl, HSZ.out ▸ run_str B2.out⟩))) ?_
          refine wpMix_seg 4 (by kernel_rfl) (by decide) ?_
          simp only [List.take_succ_cons, List.take_zero, List.drop_succ_cons, List.drop_zero]
          repeat (first | go_big_quiet_step (fail) | (go_big_quiet_want; first | refine quiet_conv mk1 rfl rfl rfl (by simp only [Act.put, List.setIfInBounds_toArray, List.set_cons_succ, List.set_cons_zero]; rfl) ?_; go_big_quiet_on))
          refine wpQuiet_nil ?_
          refine wpMix_eff (by kernel_rfl) ?_
          go_wp2_with fail
          refine (rtplain_any A7 _ c7' _ _ T2.out).mono ?_
          rintro e w3 ⟨v3, rfl, o3, k3⟩
          obtain ⟨A3, c3, rfl, b3, -⟩ := o3.shape
          have l3 := b3.le
          have m3 := b3.max
          rw [NP.out] at l3 ⊢
          have C3 := Lib.hid (k3.blk C2.out (fun h => h))
          have K3 := Lib.hid (K2.out.trans k3 (T := None) (fun _ h => h) (fun _ _ h => h))
          have T3 := Lib.hid (T2.out.later k3)
          have B3 := Lib.hid (B2.out.keeps k3 (fun _ _ _ _ _ h => h))
          have O3 := Lib.hid (O2.out.keeps k3 (fun _ _ h => h))
          clear o3 k3 b3
          go_wp2
          refine MixK.on (InS.mk ((mH.out _).2 (⟨C3.out.cellD 8 _ rfl, HSZ.out ▸ run_str B3.out⟩))) ?_
          refine wpMix_seg 6 (by kernel_rfl) (by decide) ?_
          simp only [List.take_succ_cons, List.take_zero, List.drop_succ_cons, List.drop_zero]
          repeat (first | go_big_quiet_step (fail) | (go_big_quiet_want; first | refine quiet_conv mk1 rfl rfl rfl (by simp only [Act.put, List.setIfInBounds_toArray, List.set_cons_succ, List.set_cons_zero]; rfl) ?_; go_big_quiet_on))
          refine wpQuiet_nil ?_
          refine wpMix_eff (by kernel_rfl) ?_
          go_wp2_with fail
          refine (rtpack_any A7 _ c7' _ _ T3.out).mono ?_
          rintro e w4 ⟨v4, rfl, o4, k4⟩
          obtain ⟨A4, c4, rfl, b4, -⟩ := o4.shape
          have C4 := Lib.hid (k4.blk C3.out (fun h => h))
          have K9 := Lib.hid (K3.out.trans k4 (T := None) (fun _ h => h) (fun _ _ h => h))
          have B4 := Lib.hid (B3.out.keeps k4 (fun _ _ _ _ _ h => h))
          have O9 := Lib.hid (O3.out.keeps k4 (fun _ _ h => h))
          have sd := run_str b4
          rw [HSP.out] at sd
          clear o4 k4 b4
          go_wp2
          refine MixK.on (InS.mk ((mH.out _).2 (⟨C4.out.cellD 8 _ rfl, HSZ.out ▸ run_str B4.out⟩))) ?_
          refine wpMix_eff (by kernel_rfl) ?_
          go_wp2
          refine MixK.on (InS.mk ((mH.out _).2 (⟨C4.out.cellD 8 _ rfl, HSZ.out ▸ run_str B4.out⟩))) ?_
          refine wpMix_seg 4 (by kernel_rfl) (by decide) ?_
          simp only [List.take_succ_cons, List.take_zero, List.drop_succ_cons, List.drop_zero]
          repeat (first | go_big_quiet_step (fail) | (go_big_quiet_want; first | refine quiet_conv mk1 rfl rfl rfl (by simp only [Act.put, List.setIfInBounds_toArray, List.set_cons_succ, List.set_cons_zero]; rfl) ?_; go_big_quiet_on))
          refine wpQuiet_nil ?_
          refine wpMix_nil ?_
          clear mk0 mk1 mn mH
          -- nothing is told, in world K9.out
          go_wp2
          go_ret2
          exact ⟨_, by rw [RES.out]; rfl, by rw [RES.out]; exact OwnT.nil _ _, by rw [RES.out]; simp, K9.out⟩
      · have RES : Hid (unpRF zs p = ([], 11)) := by show _ = _; rw [RU.out, hr]; exact if_pos (.inr (.inr (.inl (by rw [hnp]; omega))))
        have e5 : ((np : Int) == (p : Int)) = false := by simp; omega
        have e6 : ((np : Int) != (p : Int)) = true := by simp; omega
        have e7 : (np == p) = false := by simp; omega
        have e8 : decide ((np : Int) = (p : Int)) = false := by simp; omega
        have e9 : decide (np = p) = false := by simp; omega
        clear RU hr hbad hnp
        go_wp2
        obtain ⟨mS, mh⟩ : ∃ S : World → Prop, ∀ w', S w' ↔ (w'.cell? ⟨L.rb, 8, none⟩ = some (.bool false)) := ⟨_, fun _ => Iff.rfl⟩
        have mk0 : ∀ x : Memb mS, x.at_.cell? ⟨L.rb, 8, none⟩ = some (.bool false) := fun x => ((mh _).1 x.is)
        have mn : Nonempty (Memb mS) := ⟨⟨(wv).drew, (mh _).2 (c8)⟩⟩
        have mH := Lib.hid mh
        clear mh
        refine wp_region_mix [6, 11, 18] (InS mS) (by kernel_rfl) (by kernel_rfl) (InS.mk ((mH.out _).2 (c8))) ?_
        refine wpMix_seg 6 (by kernel_rfl) (by decide) ?_
        simp only [List.take_succ_cons, List.take_zero, List.drop_succ_cons, List.drop_zero]
        repeat (go_big_quiet_step (fail))
        refine wpQuiet_nil ?_
        refine wpMix_eff (by kernel_rfl) ?_
        go_wp2_with fail
        refine (RT.out _ T7.out.drew).mono ?_
        rintro e w2 ⟨rfl, k2⟩
        have C2 := Lib.hid (((Keeps.refl None wv).drew.trans k2 (T := None) (fun _ h => h) (fun _ _ h => h)).blk HC.out (fun h => h))
        have K2 := Lib.hid (HK.out.drew.trans k2 (T := None) (fun _ h => h) (fun _ _ h => h))
        have T2 := Lib.hid (T7.out.drew.later k2)
        clear k2
        go_wp2
        refine MixK.on (InS.mk ((mH.out _).2 ((C2.out.cellD 8 _ rfl)))) ?_
        refine wpMix_seg 4 (by kernel_rfl) (by decide) ?_
        simp only [List.take_succ_cons, List.take_zero, List.drop_succ_cons, List.drop_zero]
        repeat (go_big_quiet_step (fail))
        refine wpQuiet_nil ?_
        refine wpMix_eff (by kernel_rfl) ?_
        go_wp2_with fail
        refine (rtplain_any A7 _ c7' _ _ T2.out).mono ?_
        rintro e w3 ⟨v3, rfl, o3, k3⟩
        obtain ⟨A3, c3, rfl, b3, -⟩ := o3.shape
        have l3 := b3.le
        have m3 := b3.max
        rw [NP.out] at l3 ⊢
        have C3 := Lib.hid (k3.blk C2.out (fun h => h))
        have K3 := Lib.hid (K2.out.trans k3 (T := None) (fun _ h => h) (fun _ _ h => h))
        clear o3 k3 b3
        go_wp2
        refine MixK.on (InS.mk ((mH.out _).2 ((C3.out.cellD 8 _ rfl)))) ?_
        refine wpMix_seg 6 (by kernel_rfl) (by decide) ?_
        simp only [List.take_succ_cons, List.take_zero, List.drop_succ_cons, List.drop_zero]
        repeat (go_big_quiet_step (fail))
        refine wpQuiet_nil ?_
        refine wpMix_off ?_ (by kernel_rfl)
        repeat (go_big_quiet_step (fail))
        refine wpQuiet_nil ?_
        refine wpMix_seg 5 (by kernel_rfl) (by decide) ?_
        simp only [List.take_succ_cons, List.take_zero, List.drop_succ_cons, List.drop_zero]
        repeat (go_big_quiet_step (fail))
        refine wpQuiet_nil ?_
        refine wpMix_nil ?_
        clear mk0 mn mH
        -- nothing is told, in world K3.out
        go_wp2
        go_ret2
        exact ⟨_, by rw [RES.out]; rfl, by rw [RES.out]; exact OwnT.nil _ _, by rw [RES.out]; simp, K3.out⟩
end Go.Proofs.Ytggjdkkobhefeaa
