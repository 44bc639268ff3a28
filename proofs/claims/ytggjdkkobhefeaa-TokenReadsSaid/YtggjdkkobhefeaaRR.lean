/- The reference's reader: its state in plain words, in memory; the walk of more. -/
import Derived.Test.YtggjdkkobhefeaaTkUnp
import Derived.Test.YtggjdkkobhefeaaCodTree2
namespace Go.Proofs.Ytggjdkkobhefeaa
open Go.RowKit

structure RS where
  d : DSt
  zs : List Int
  q1 : List Int
  q2 : List Int
  q3 : List Int
  p0 : Int
  p1 : Int
  was : Int
  bad : Bool
structure RRL where
  db : Nat
  b1 : Nat
  g1 : Nat
  b2 : Nat
  g2 : Nat
  b3 : Nat
  g3 : Nat
  rb : Nat
def rrcells (L : RRL) (A : Option Addr) (n c : Nat) (s : RS) : List Value := [.pointer (some ⟨L.db, 0, none⟩), .slice A n c, .pointer (some ⟨L.b1, 0, none⟩), .pointer (some ⟨L.b2, 0, none⟩), .pointer (some ⟨L.b3, 0, none⟩), .int .i64 s.p0, .int .i64 s.p1, .int .i64 s.was, .bool s.bad]
structure RRAt (w : World) (L : RRL) (s : RS) (A : Option Addr) (n q : Nat) : Prop where
  cc : Blk w L.rb (rrcells L A n q s) 97
  bs : Bs w A n q s.zs
  lb : 0 < n → LB A L.db
  dc : DAt w L.db 91 s.d
  t1 : RTree w L.b1 L.g1 8 s.q1
  t2 : RTree w L.b2 L.g2 8 s.q2
  t3 : RTree w L.b3 L.g3 6 s.q3
  ord : L.db < L.b1 ∧ L.b1 < L.g1 ∧ L.g1 < L.b2 ∧ L.b2 < L.g2 ∧ L.g2 < L.b3 ∧ L.b3 < L.g3 ∧ L.g3 < L.rb
def RRB (L : RRL) (k : Nat) : Prop := L.db ≤ k ∧ k ≤ L.rb
theorem RRAt.keeps {w w' : World} {L : RRL} {s : RS} {A : Option Addr} {n c : Nat} {S : Nat → Prop} (h : RRAt w L s A n c) (hk : Keeps S w w') (hS : ∀ k, k ≤ L.rb → ¬ S k) : RRAt w' L s A n c := by
  obtain ⟨o1, o2, o3, o4, o5, o6, o7⟩ := h.ord
  exact ⟨hk.blk h.cc (hS _ (Nat.le_refl _)), h.bs.keeps hk (fun b off h0 hb e => hS b (by have := h.lb h0 b off e; omega)), h.lb, h.dc.keeps hk (hS _ (by omega)), h.t1.keeps hk (hS _ (by omega)) (hS _ (by omega)), h.t2.keeps hk (hS _ (by omega)) (hS _ (by omega)), h.t3.keeps hk (hS _ (by omega)) (hS _ (by omega)), h.ord⟩
theorem RRAt.later {w w' : World} {L : RRL} {s : RS} {A : Option Addr} {n c : Nat} (h : RRAt w L s A n c) (hk : Keeps None w w') : RRAt w' L s A n c := h.keeps hk (fun _ _ h => h)
/-- What is good of it. -/
structure ROkR (s : RS) : Prop where
  dok : DOk s.d
  zb : ∀ z ∈ s.zs, 0 ≤ z ∧ z ≤ 255
  l1 : s.q1.length = 256
  l2 : s.q2.length = 256
  l3 : s.q3.length = 64
  was : s.was = 0 ∨ s.was = 1
def moreF (s : RS) : RS :=
  if s.bad = true then s
  else if s.d.n.toNat ≤ s.zs.length then { s with d := dEat s.d (s.zs.take s.d.n.toNat), zs := s.zs.drop s.d.n.toNat, bad := dLostB (dEat s.d (s.zs.take s.d.n.toNat)) }
  else { s with d := dEat s.d s.zs, zs := [], bad := true }
theorem ROkR.more {s : RS} (h : ROkR s) : ROkR (moreF s) := by
  unfold moreF
  split
  · exact h
  split
  · exact ⟨dEat_ok _ _ (fun z hz => h.zb z (List.mem_of_mem_take hz)) h.dok, fun z hz => h.zb z (List.mem_of_mem_drop hz), h.l1, h.l2, h.l3, h.was⟩
  · exact ⟨dEat_ok _ _ h.zb h.dok, fun z hz => (by cases hz), h.l1, h.l2, h.l3, h.was⟩
def MoreDone (w : World) (L : RRL) (s : RS) (e : Ending) (w' : World) : Prop :=
  ∃ A n c, e = .returned (.tuple #[]) ∧ RRAt w' L s A n c ∧ Keeps (fun k => k = L.db ∨ k = L.rb) w w'
set_option maxRecDepth 100000 in
set_option maxHeartbeats 3200000 in
theorem rmore_any (L : RRL) (s : RS) (A : Option Addr) (n c : Nat) (w : World) (h : RRAt w L s A n c) (ok : ROkR s) :
    Calls Try.prog 62 #[.pointer (some ⟨L.rb, 0, none⟩)] w (MoreDone w L (moreF s)) := by
  obtain ⟨res, hres⟩ : ∃ x, moreF s = x := ⟨_, rfl⟩
  rw [hres]
  have RES := Lib.hid hres
  have OK := Lib.hid ok
  have n0 : 0 ≤ s.d.n := ok.dok.inv.n0
  obtain ⟨J, hJ⟩ : ∃ x, (if s.bad = true then 0 else min s.d.n.toNat s.zs.length) = x := ⟨_, rfl⟩
  have JN := Lib.hid hJ
  have START := Lib.hid h
  clear hres h ok hJ
  go_enter Try.func62, Try.ntmps62
  go_wp2
  go_loopg [] (J + 1) (fun g wr => ∃ (i n' q' : Nat) (A' : Option Addr), i + g = J + 1 ∧ i ≤ J ∧ RRAt wr L { s with d := dEat s.d (s.zs.take i), zs := s.zs.drop i } A' n' q' ∧ Keeps (fun k => k = L.db ∨ k = L.rb) w wr)
  case atStart => exact ⟨0, n, c, A, by omega, Nat.zero_le _, START.out, Keeps.refl _ _⟩
  case round =>
    obtain ⟨i, n', q', A', hig, hiJ, hra, hk⟩ := hrel
    obtain ⟨G, rfl⟩ : ∃ G, gk = G + 1 := ⟨gk - 1, by omega⟩
    obtain ⟨wv, rfl⟩ : ∃ x, x = wr := ⟨_, rfl⟩
    have HK := Lib.hid hk
    have RA := Lib.hid hra
    have JJ := JN.out
    have hbl := hra.bs.len
    have hble := hra.bs.le
    have hbmx := hra.bs.max
    dsimp only at hbl
    rw [List.length_drop] at hbl
    have i1 : i ≤ s.zs.length := by split at JJ <;> omega
    have i2 : (i : Int) ≤ s.d.n := by split at JJ <;> omega
    have en := dEat_n s.d s.zs i i1 i2
    have inv := dEat_inv s.d (s.zs.take i) (fun z hz => OK.out.zb z (List.mem_of_mem_take hz)) OK.out.dok.inv
    have d2 : wv.cell? ⟨L.db, 2, none⟩ = some (.int .i64 (s.d.n - i)) := by rw [← en]; exact hra.dc.cellD 2 _ rfl
    have c0 := hra.cc.cellD 0 _ rfl
    have c1 := hra.cc.cellD 1 _ rfl
    have c8 : wv.cell? ⟨L.rb, 8, none⟩ = some (.bool s.bad) := hra.cc.cellD 8 _ rfl
    have f8 := hra.cc.frozen 8
    have f1 := hra.cc.frozen 1
    have ord := hra.ord
    have ORD := Lib.hid ord
    have LOST := Lib.hid (fun w' h' => rdlost_any L.db (dEat s.d (s.zs.take i)) w' h')
    have INV := Lib.hid inv
    have EN := Lib.hid en
    have HBL := Lib.hid hbl
    have I1 := Lib.hid i1
    have I2 := Lib.hid i2
    have HIG := Lib.hid hig
    have SET8 : Hid (∀ x : Bool, RRAt (wv.setCell ⟨L.rb, 8, none⟩ (.bool x)) L { s with d := dEat s.d (s.zs.take i), zs := s.zs.drop i, bad := x } A' n' q') := fun x => by
      have k := (Keeps.self L.rb wv).put 8 (.bool x)
      have r := RA.out
      exact ⟨r.cc.set 8 (.bool x), r.bs.keeps k (fun b off h0 hb e h => by have := r.lb h0 b off e; have h : b = L.rb := h; omega), r.lb, r.dc.keeps k (by show ¬ _ = _; omega), r.t1.keeps k (by show ¬ _ = _; omega) (by show ¬ _ = _; omega), r.t2.keeps k (by show ¬ _ = _; omega) (by show ¬ _ = _; omega), r.t3.keeps k (by show ¬ _ = _; omega) (by show ¬ _ = _; omega), r.ord⟩
    cases hbad : s.bad with
    | true =>
      have E : Hid (res = s) := by show _ = _; rw [← RES.out]; unfold moreF; rw [if_pos hbad]
      have i0 : i = 0 := by rw [hbad, if_pos rfl] at JJ; omega
      rw [hbad] at c8
      have BAD := Lib.hid hbad
      have S8 := Lib.hid (SET8.out true)
      subst i0
      have ES : Hid ({ s with d := dEat s.d (s.zs.take 0), zs := s.zs.drop 0, bad := true } = s) := by
        show _ = _
        rw [← BAD.out]
        rfl
      clear hra hk JJ hbl en inv ord i1 i2 hig hbad
      have sz : s.d.n - ((0 : Nat) : Int) = s.d.n := by omega
      rw [sz] at d2
      by_cases hn : 0 < s.d.n
      · have e1 : decide (0 < s.d.n) = true := decide_eq_true hn
        -- the end: A' n' q' the slice, S8 the state, true bad
        go_wp2
        go_end0
        exact ⟨A', n', q', rfl, by rw [E.out, ← ES.out]; exact S8.out, HK.out.trans ((Keeps.self L.rb wv).put 8 (.bool true)) (fun _ h => h) (fun _ _ h => .inr h)⟩
      · have e1 : decide (0 < s.d.n) = false := decide_eq_false hn
        -- the end: A' n' q' the slice, S8 the state, true bad
        go_wp2
        go_end0
        exact ⟨A', n', q', rfl, by rw [E.out, ← ES.out]; exact S8.out, HK.out.trans ((Keeps.self L.rb wv).put 8 (.bool true)) (fun _ h => h) (fun _ _ h => .inr h)⟩
    | false =>
      rw [hbad] at c8
      rw [hbad, if_neg (by decide)] at JJ
      by_cases hlt : (i : Int) < s.d.n
      · have e1 : decide (0 < s.d.n - (i : Int)) = true := decide_eq_true (by omega)
        by_cases hz : n' = 0
        · have e2 : ((n' : Int) == 0) = true := by simp [hz]
          have E : Hid (res = { s with d := dEat s.d (s.zs.take i), zs := s.zs.drop i, bad := true }) := by
            show _ = _
            rw [← RES.out]
            unfold moreF
            rw [if_neg (by rw [hbad]; decide), if_neg (by omega), List.take_of_length_le (by omega), List.drop_eq_nil_of_le (by omega)]
          have S8 := Lib.hid (SET8.out true)
          have ES : Hid ({ s with d := dEat s.d (s.zs.take i), zs := s.zs.drop i, bad := true } = ({ s with d := dEat s.d (s.zs.take i), zs := s.zs.drop i, bad := true } : RS)) := rfl
          clear hra hk JJ hbl en inv ord hig hbad hz i1 i2
          go_wp2
          refine bodyPost_ret (results_none rfl _ _ _) rfl ?_
          exact ⟨A', n', q', rfl, by rw [E.out]; exact S8.out, HK.out.trans ((Keeps.self L.rb wv).put 8 (.bool true)) (fun _ h => h) (fun _ _ h => .inr h)⟩
        · have e2 : ((n' : Int) == 0) = false := by simp; omega
          obtain ⟨bl, of1, y, rfl, hy, hya, hyb, hc⟩ := RA.out.bs.get (i := 0) (by omega)
          replace hc : wv.cell? ⟨bl, of1, none⟩ = some (.int .u8 y) := hc
          have ez : s.zs.getD i 0 = y := by rw [← hy]; simp [List.getD, List.getElem?_drop]
          have SN := Lib.hid (dEat_snoc s.d s.zs i (by omega))
          rw [ez] at SN
          have BY := Lib.hid (fun w' h' => rdbyte_any L.db (dEat s.d (s.zs.take i)) y w' h' INV.out ⟨hya, hyb⟩)
          have DR := Lib.hid (RA.out.bs.dropIf (k := 1) (by omega))
          dsimp only at DR
          rw [List.drop_drop] at DR
          have hbl2 : bl < L.db := RA.out.lb (by omega) _ _ rfl
          have NN : 0 < n' := by omega
          have ilt : i + 1 ≤ J := by omega
          clear hra hk JJ hbl en inv ord hz hy ez i1 i2 SET8
          go_wp2
          obtain ⟨m3S, m3h⟩ : ∃ S : World → Prop, ∀ w', S w' ↔ (w'.cell? ⟨L.rb, 0, none⟩ = some (.pointer (some ⟨L.db, 0, none⟩)) ∧ w'.cell? ⟨L.rb, 1, none⟩ = some (.slice (some ⟨bl, of1, none⟩) n' q') ∧ w'.cell? ⟨bl, of1, none⟩ = some (.int .u8 y)) := ⟨_, fun _ => Iff.rfl⟩
          have m3k0 : ∀ x : Memb m3S, x.at_.cell? ⟨L.rb, 0, none⟩ = some (.pointer (some ⟨L.db, 0, none⟩)) := fun x => ((m3h _).1 x.is).1
          have m3k1 : ∀ x : Memb m3S, x.at_.cell? ⟨L.rb, 1, none⟩ = some (.slice (some ⟨bl, of1, none⟩) n' q') := fun x => ((m3h _).1 x.is).2.1
          have m3k2 : ∀ x : Memb m3S, x.at_.cell? ⟨bl, of1, none⟩ = some (.int .u8 y) := fun x => ((m3h _).1 x.is).2.2
          have m3n : Nonempty (Memb m3S) := ⟨⟨(wv).drew, (m3h _).2 ⟨c0, c1, hc⟩⟩⟩
          have m3H := Lib.hid m3h
          clear m3h
          refine wp_region_mix [10] (InS m3S) (by kernel_rfl) (by kernel_rfl) (InS.mk ((m3H.out _).2 ⟨c0, c1, hc⟩)) ?_
          refine wpMix_seg 10 (by kernel_rfl) (by decide) ?_
          simp only [List.take_succ_cons, List.take_zero, List.drop_succ_cons, List.drop_zero]
          repeat (go_big_quiet_step (fail))
          refine wpQuiet_nil ?_
          refine wpMix_eff (by kernel_rfl) ?_
          go_wp2_with fail
          refine (BY.out _ RA.out.dc.drew).mono ?_
          rintro e w4 ⟨rfl, d4, k4⟩
          have D4 := Lib.hid d4
          have K4 := Lib.hid ((Keeps.refl (fun k => k = L.db) wv).drew.trans k4 (T := fun k => k = L.db) (fun _ h => h) (fun _ _ h => h))
          clear d4 k4
          go_wp2
          refine MixK.last (by kernel_rfl) ?_
          refine wpMix_nil ?_
          clear m3k0 m3k1 m3k2 m3n m3H
          have ord := ORD.out
          have C4 := Lib.hid (K4.out.blk RA.out.cc (by show ¬ _ = _; omega))
          have y1 := C4.out.cellD 1 _ rfl
          have g1 := C4.out.frozen 1
          have B4 := Lib.hid (DR.out.keeps K4.out (fun b off _ _ e h => by have h : b = L.db := h; split at e <;> (cases e; omega)))
          by_cases c1' : q' = 1
          · rw [if_pos c1'] at B4
            subst c1'
            obtain rfl : n' = 1 := by omega
            go_wp2
            go_roundg G
            case measure => omega
            case rel =>
              have k := (Keeps.self L.rb w4).put 1 (.slice (some ⟨bl, of1, none⟩) 0 0)
              have r := RA.out
              refine ⟨i + 1, 0, 0, some ⟨bl, of1, none⟩, by have := HIG.out; omega, ilt, ?_, (HK.out.trans K4.out (T := fun k => k = L.db ∨ k = L.rb) (fun _ h => h) (fun _ _ h => .inl h)).trans k (fun _ h => h) (fun _ _ h => .inr h)⟩
              rw [SN.out]
              exact ⟨C4.out.set 1 _, B4.out.keeps k (fun b off _ _ e h => by have h : b = L.rb := h; cases e; omega), fun _ b off e => by cases e; exact hbl2, D4.out.keeps k (by show ¬ _ = _; omega), (r.t1.keeps K4.out (by show ¬ _ = _; omega) (by show ¬ _ = _; omega)).keeps k (by show ¬ _ = _; omega) (by show ¬ _ = _; omega), (r.t2.keeps K4.out (by show ¬ _ = _; omega) (by show ¬ _ = _; omega)).keeps k (by show ¬ _ = _; omega) (by show ¬ _ = _; omega), (r.t3.keeps K4.out (by show ¬ _ = _; omega) (by show ¬ _ = _; omega)).keeps k (by show ¬ _ = _; omega) (by show ¬ _ = _; omega), r.ord⟩
          · rw [if_neg c1'] at B4
            go_wp2
            go_roundg G
            case measure => omega
            case rel =>
              have k := (Keeps.self L.rb w4).put 1 (.slice (some ⟨bl, of1 + 1, none⟩) (n' - 1) (q' - 1))
              have r := RA.out
              refine ⟨i + 1, (n' - 1), (q' - 1), some ⟨bl, of1 + 1, none⟩, by have := HIG.out; omega, ilt, ?_, (HK.out.trans K4.out (T := fun k => k = L.db ∨ k = L.rb) (fun _ h => h) (fun _ _ h => .inl h)).trans k (fun _ h => h) (fun _ _ h => .inr h)⟩
              rw [SN.out]
              exact ⟨C4.out.set 1 _, B4.out.keeps k (fun b off _ _ e h => by have h : b = L.rb := h; cases e; omega), fun _ b off e => by cases e; exact hbl2, D4.out.keeps k (by show ¬ _ = _; omega), (r.t1.keeps K4.out (by show ¬ _ = _; omega) (by show ¬ _ = _; omega)).keeps k (by show ¬ _ = _; omega) (by show ¬ _ = _; omega), (r.t2.keeps K4.out (by show ¬ _ = _; omega) (by show ¬ _ = _; omega)).keeps k (by show ¬ _ = _; omega) (by show ¬ _ = _; omega), (r.t3.keeps K4.out (by show ¬ _ = _; omega) (by show ¬ _ = _; omega)).keeps k (by show ¬ _ = _; omega) (by show ¬ _ = _; omega), r.ord⟩
      · have e1 : decide (0 < s.d.n - (i : Int)) = false := decide_eq_false (by omega)
        have ei : s.d.n.toNat = i := by omega
        obtain ⟨lb, hlb⟩ : ∃ x, dLostB (dEat s.d (s.zs.take i)) = x := ⟨_, rfl⟩
        have E : Hid (res = { s with d := dEat s.d (s.zs.take i), zs := s.zs.drop i, bad := lb }) := by
          show _ = _
          rw [← RES.out]
          unfold moreF
          rw [if_neg (by rw [hbad]; decide), if_pos (by omega), ei, hlb]
        rw [hlb] at LOST
        have ES : Hid ({ s with d := dEat s.d (s.zs.take i), zs := s.zs.drop i, bad := lb } = ({ s with d := dEat s.d (s.zs.take i), zs := s.zs.drop i, bad := lb } : RS)) := rfl
        clear hra hk JJ hbl en inv ord hig hbad ei hlb i1 i2
        go_wp2_with fail
        refine (LOST.out _ RA.out.dc).mono ?_
        rintro e w4 ⟨rfl, kk, rfl⟩
        go_wp2
        go_end0
        have k := (Keeps.self L.rb (wv.drewN kk)).put 8 (.bool lb)
        have r := RA.out.later ((Keeps.refl None wv).drewN kk)
        have ord := ORD.out
        exact ⟨A', n', q', rfl, by rw [E.out]; exact ⟨r.cc.set 8 (.bool lb), r.bs.keeps k (fun b off h0 hb e h => by have := r.lb h0 b off e; have h : b = L.rb := h; omega), r.lb, r.dc.keeps k (by show ¬ _ = _; omega), r.t1.keeps k (by show ¬ _ = _; omega) (by show ¬ _ = _; omega), r.t2.keeps k (by show ¬ _ = _; omega) (by show ¬ _ = _; omega), r.t3.keeps k (by show ¬ _ = _; omega) (by show ¬ _ = _; omega), r.ord⟩, (HK.out.drewN kk).trans k (fun _ h => h) (fun _ _ h => .inr h)⟩
end Go.Proofs.Ytggjdkkobhefeaa
