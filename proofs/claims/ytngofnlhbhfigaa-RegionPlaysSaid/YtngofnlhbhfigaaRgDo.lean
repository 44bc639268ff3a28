/- The law's `do`: a call on a region of both flashes. -/
import Derived.Test.YtngofnlhbhfigaaFlDo
import Derived.Test.YtngofnlhbhfigaaRfRg
import Derived.Test.YtngofnlhbhfigaaRgNone
namespace Go.Proofs.Ytngofnlhbhfigaa
open Go.RowKit

section
variable {s r : FS}
theorem Sim.gread (h : Sim s r) (f c : Nat) (a m : Int) : r.gread f c a m = s.gread f c a m := by obtain ⟨l, rfl, _⟩ := h; rfl
theorem Sim.gblank (h : Sim s r) (f c : Nat) (k : Int) : r.gblank f c k = s.gblank f c k := by obtain ⟨l, rfl, _⟩ := h; rfl
theorem Sim.gprog (h : Sim s r) (f c : Nat) (a : Int) (zs : List Int) (hs : s.steps + zs.length ≤ 1000000000000) : Sim (s.gprog f c a zs).1 (r.gprog f c a zs).1 ∧ (r.gprog f c a zs).2 = (s.gprog f c a zs).2 := by
  unfold FS.gprog
  rw [h.dark]
  split
  · exact ⟨h, rfl⟩
  · split
    · exact h.prog _ _ hs
    · exact ⟨h, rfl⟩
theorem Sim.gerase (h : Sim s r) (f c : Nat) (k : Int) (hs : s.steps ≤ 1000000000000) : Sim (s.gerase f c k).1 (r.gerase f c k).1 ∧ (r.gerase f c k).2 = (s.gerase f c k).2 := by
  unfold FS.gerase
  rw [h.dark]
  split
  · exact ⟨h, rfl⟩
  · split
    · exact ⟨h, rfl⟩
    · exact h.erase _ hs
theorem Room.gprogF {m : Nat} (h : Room s (m + 1101)) (f c : Nat) (a : Int) {zs : List Int} (hz : zs.length ≤ 1100) : Room (s.gprog f c a zs).1 m := by
  have := gprog_more s f c a zs
  have h1 := h.st
  exact ⟨by omega, fun i => by rw [this.1]; have := h.er i; omega⟩
theorem gerase_len (s : FS) (f c : Nat) (k : Int) : (s.gerase f c k).1.er.length = s.er.length := by
  unfold FS.gerase
  split
  · rfl
  · split
    · rfl
    · exact (erase_more s _).1
end
/-- What a call on both flashes leaves. -/
structure FRLink (a b : World) (L L' : FL) (Lr Lr' : RL) : Prop where
  keeps : Keeps (fun j => L.O j ∨ Lr.O j) a b
  o : ∀ j, L'.O j → L.O j ∨ a.heap.size ≤ j
  p : ∀ j, Lr'.O j → Lr.O j ∨ a.heap.size ≤ j
section
variable {a b c : World} {B : Nat} {L M M' : FL} {Lr Mr Mr' : RL} {s : FS}
theorem FRLink.quiet (h : Keeps None a b) : FRLink a b L L Lr Lr := ⟨h.mono (fun _ _ h => h.elim), fun _ h => .inl h, fun _ h => .inl h⟩
theorem FRLink.later (h : FRLink a b L M Lr Mr) (k : Keeps None b c) : FRLink a c L M Lr Mr := ⟨h.keeps.trans k (fun _ h => h) (fun _ _ h => h.elim), h.o, h.p⟩
theorem FRLink.turnF (h : FRLink a b L M Lr Mr) (t : Turn b c B M M' s) : FRLink a c L M' Lr Mr :=
  ⟨h.keeps.trans t.keeps (fun _ h => h) (fun i hi hj => (h.o i hj).elim .inl (fun hc => absurd hi (Nat.not_lt.2 hc))), fun j hj => (t.o j hj).elim (h.o j) (fun hc => .inr (Nat.le_trans h.keeps.size hc)), h.p⟩
theorem FRLink.turnR (h : FRLink a b L M Lr Mr) (t : RTurn b c B Mr Mr' s) : FRLink a c L M Lr Mr' :=
  ⟨h.keeps.trans t.keeps (fun _ h => h) (fun i hi hj => (h.p i hj).elim .inr (fun hc => absurd hi (Nat.not_lt.2 hc))), h.o, fun j hj => (t.o j hj).elim (h.p j) (fun hc => .inr (Nat.le_trans h.keeps.size hc))⟩
end
def DoTold3 (W w : World) (B q : Nat) (L : FL) (Br qr : Nat) (Lr : RL) (m el : Nat) (e : Ending) (w' : World) : Prop :=
  e = .returned (.bool true) ∧ ∃ L' s' Lr' r', FR W w' B q L' s' Br qr Lr' r' ∧ Sim s' r' ∧ Room s' m ∧ s'.er.length = el ∧ FRLink w w' L L' Lr Lr'

/-- The boxes of the regions and of the call. -/
structure Box3 (w : World) (pr ps pa : Nat) (pq pqr : Option Addr) (first count k a n : Int) (A : Option Addr) (bl bc : Nat) : Prop where
  r : Blk w pr [.pointer pq, .int .i64 first, .int .i64 count] 27
  s : Blk w ps [.pointer pqr, .int .i64 first, .int .i64 count] 66
  a : Blk w pa [.int .i64 k, .int .i64 a, .int .i64 n, .slice A bl bc] 60
section
variable {w w' : World} {pr ps pa : Nat} {pq pqr : Option Addr} {first count k a n : Int} {A : Option Addr} {bl bc : Nat}
theorem Box3.keeps {S : Nat → Prop} (h : Box3 w pr ps pa pq pqr first count k a n A bl bc) (hk : Keeps S w w') (hS : ¬ S pr ∧ ¬ S ps ∧ ¬ S pa) : Box3 w' pr ps pa pq pqr first count k a n A bl bc :=
  ⟨hk.blk h.r hS.1, hk.blk h.s hS.2.1, hk.blk h.a hS.2.2⟩
theorem Box3.later (h : Box3 w pr ps pa pq pqr first count k a n A bl bc) (hk : Keeps None w w') : Box3 w' pr ps pa pq pqr first count k a n A bl bc := h.keeps hk ⟨fun h => h, fun h => h, fun h => h⟩
theorem Box3.c (h : Box3 w pr ps pa pq pqr first count k a n A bl bc) : w.cell? ⟨pr, 0, none⟩ = some (.pointer pq) ∧ w.cell? ⟨pr, 1, none⟩ = some (.int .i64 first) ∧ w.cell? ⟨pr, 2, none⟩ = some (.int .i64 count) ∧ w.cell? ⟨ps, 0, none⟩ = some (.pointer pqr) ∧ w.cell? ⟨ps, 1, none⟩ = some (.int .i64 first) ∧ w.cell? ⟨ps, 2, none⟩ = some (.int .i64 count) ∧ w.cell? ⟨pa, 1, none⟩ = some (.int .i64 a) ∧ w.cell? ⟨pa, 3, none⟩ = some (.slice A bl bc) :=
  ⟨h.r.cellD 0 _ rfl, h.r.cellD 1 _ rfl, h.r.cellD 2 _ rfl, h.s.cellD 0 _ rfl, h.s.cellD 1 _ rfl, h.s.cellD 2 _ rfl, h.a.cellD 1 _ rfl, h.a.cellD 3 _ rfl⟩
end
set_option maxRecDepth 100000 in
set_option maxHeartbeats 3200000 in
theorem do3_any {W w : World} {B q : Nat} {L : FL} {s : FS} {Br qr : Nat} {Lr : RL} {r : FS} (h : FR W w B q L s Br qr Lr r) (hs : Sim s r) (m : Nat) (hr : Room s (m + 1101)) (first count : Nat) (hfc : first + count ≤ s.er.length) (k a n : Int) (A : Option Addr) (bl bc : Nat) (bs : List Int)
    (hb : Bs W A bl bc bs) (hbl : bl ≤ 1100) (hn : n ≤ 9223372036854775807) :
    Calls Try.prog 49 #[.pointer (some ⟨q, 0, none⟩), .pointer (some ⟨qr, 0, none⟩), .agg #[.pointer (some ⟨q, 0, none⟩), .int .i64 first, .int .i64 count], .agg #[.pointer (some ⟨qr, 0, none⟩), .int .i64 first, .int .i64 count], .agg #[.int .i64 k, .int .i64 a, .int .i64 n, .slice A bl bc]] w (DoTold3 W w B q L Br qr Lr m s.er.length) := by
  have hle := hb.le
  have hmx := hb.max
  have hf9 : first + count ≤ 256 := by have := h.f.at_.el; have := h.f.at_.n9; omega
  have HFC := Lib.hid hfc
  have HGC : Hid (first + count ≤ Lr.n) := by show _ ≤ _; rw [← h.g.el, hs.er]; exact hfc
  have HN := Lib.hid hn
  have HF := Lib.hid h
  have HS := Lib.hid hs
  have HR := Lib.hid hr
  have HB := Lib.hid hb
  have HL := Lib.hid hb.len
  have st1 := hr.st.1
  have st2 := hr.st.2
  clear h hs hr hb hn hfc
  -- (some ⟨q, 0, none⟩) pointer of the region, (some ⟨qr, 0, none⟩) of the reference's, (first : Int) first, (count : Int) count
  obtain ⟨wa, hwa⟩ : ∃ x, w.alloc (.cells #[.pointer (some ⟨q, 0, none⟩), .int .i64 (first : Int), .int .i64 (count : Int)] 27) = x := ⟨_, rfl⟩
  obtain ⟨wb, hwb⟩ : ∃ x, wa.alloc (.cells #[.pointer (some ⟨qr, 0, none⟩), .int .i64 (first : Int), .int .i64 (count : Int)] 66) = x := ⟨_, rfl⟩
  obtain ⟨w1, hw1⟩ : ∃ x, wb.alloc (.cells #[.int .i64 k, .int .i64 a, .int .i64 n, .slice A bl bc] 60) = x := ⟨_, rfl⟩
  have sa : wa.heap.size = w.heap.size + 1 := by rw [← hwa]; simp
  have sb : wb.heap.size = w.heap.size + 1 + 1 := by rw [← hwb]; simp [sa]
  have ka : Keeps None w wa := hwa ▸ (Keeps.refl None w).alloc _
  have kb : Keeps None wa wb := hwb ▸ (Keeps.refl None wa).alloc _
  have k1 : Keeps None wb w1 := hw1 ▸ (Keeps.refl None wb).alloc _
  have bra : Blk wa w.heap.size [.pointer (some ⟨q, 0, none⟩), .int .i64 (first : Int), .int .i64 (count : Int)] 27 := hwa ▸ Blk.new w [.pointer (some ⟨q, 0, none⟩), .int .i64 (first : Int), .int .i64 (count : Int)] 27
  have bsb : Blk wb (w.heap.size + 1) [.pointer (some ⟨qr, 0, none⟩), .int .i64 (first : Int), .int .i64 (count : Int)] 66 := by have := Blk.new wa [.pointer (some ⟨qr, 0, none⟩), .int .i64 (first : Int), .int .i64 (count : Int)] 66; rw [sa] at this; exact hwb ▸ this
  have bac : Blk w1 (w.heap.size + 1 + 1) [.int .i64 k, .int .i64 a, .int .i64 n, .slice A bl bc] 60 := by have := Blk.new wb [.int .i64 k, .int .i64 a, .int .i64 n, .slice A bl bc] 60; rw [sb] at this; exact hw1 ▸ this
  have B1 : Hid (Box3 w1 w.heap.size (w.heap.size + 1) (w.heap.size + 1 + 1) (some ⟨q, 0, none⟩) (some ⟨qr, 0, none⟩) (first : Int) (count : Int) k a n A bl bc) := ⟨k1.blk (kb.blk bra (fun h => h)) (fun h => h), k1.blk bsb (fun h => h), bac⟩
  have K1 : Hid (Keeps None w w1) := (ka.trans kb (T := None) (fun _ h => h) (fun _ _ h => h)).trans k1 (T := None) (fun _ h => h) (fun _ _ h => h)
  have H1 := Lib.hid (HF.out.later K1.out)
  have NPF : Hid (¬ L.O w.heap.size ∧ ¬ L.O (w.heap.size + 1) ∧ ¬ L.O (w.heap.size + 1 + 1)) := ⟨fun hO => by have := HF.out.f.at_.lt _ hO; omega, fun hO => by have := HF.out.f.at_.lt _ hO; omega, fun hO => by have := HF.out.f.at_.lt _ hO; omega⟩
  have NPR : Hid (¬ Lr.O w.heap.size ∧ ¬ Lr.O (w.heap.size + 1) ∧ ¬ Lr.O (w.heap.size + 1 + 1)) := ⟨fun hO => by have := HF.out.g.lt _ hO; omega, fun hO => by have := HF.out.g.lt _ hO; omega, fun hO => by have := HF.out.g.lt _ hO; omega⟩
  have x3 := bac.cellD 3 _ rfl
  clear ka kb k1 bra bsb bac sa sb
  subst hwa hwb
  go_enter Try.func49, Try.ntmps49
  go_wp2_with (at_builtin; refine Hid.out ?_)
  refine Lib.hid ?_
  clear hw1 x3
  generalize w.heap.size + 1 + 1 = pa at *
  generalize w.heap.size + 1 = ps at *
  obtain ⟨pr, hpr⟩ : ∃ x, w.heap.size = x := ⟨_, rfl⟩
  rw [hpr] at B1 NPF NPR ⊢
  clear hpr
  refine wpList_append_bs (Own.nil _ w1.heap.size) (HB.out.keeps H1.out.keeps (fun _ _ _ _ _ h => h)) (by simp; omega) (Nat.le_refl _) rfl rfl rfl rfl rfl ?_
  intro v2 w2 ho2 hk2
  rw [List.nil_append] at ho2
  obtain ⟨A2, c2, rfl, bs2, -⟩ := ho2.shape
  rw [HL.out] at ho2 bs2 ⊢
  have k2 : Keeps None w1 w2 := hk2.mono (fun i hi e => by simp [Value.ownBlock] at e)
  have H2 := Lib.hid (H1.out.later k2)
  have P2 := Lib.hid (B1.out.later k2)
  have LK2 : Hid (FRLink w w2 L L Lr Lr) := FRLink.quiet (K1.out.trans k2 (T := None) (fun _ h => h) (fun _ _ h => h))
  have LB := Lib.hid (Lb.new H1.out.f.at_ ho2)
  have BB := Lib.hid bs2
  have RB := Lib.hid (fun w' Lr' r' (hk : Keeps None W w') (hg : RAt w' Br Lr' r') => Rb.arg HB.out hk hg H2.out.gB)
  clear ho2 hk2 bs2 k2 H1 B1 K1 HF
  -- P2.out a Box3
  have y0 := (P2.out).r.cellD 0 _ rfl
  have y1 := (P2.out).r.cellD 1 _ rfl
  have y2 := (P2.out).r.cellD 2 _ rfl
  have z0 := (P2.out).s.cellD 0 _ rfl
  have z1 := (P2.out).s.cellD 1 _ rfl
  have z2 := (P2.out).s.cellD 2 _ rfl
  have x0 := (P2.out).a.cellD 0 _ rfl
  have x1 := (P2.out).a.cellD 1 _ rfl
  have x2 := (P2.out).a.cellD 2 _ rfl
  have x3 := (P2.out).a.cellD 3 _ rfl
  by_cases q1 : k = 1
  · subst q1
    obtain ⟨zs, er, hrd⟩ : ∃ zs er, s.gread first count a n = (zs, er) := ⟨_, _, rfl⟩
    have RD : Hid (∀ w', FR W w' B q L s Br qr Lr r → Calls Try.prog 88 #[.agg #[.pointer (some ⟨qr, 0, none⟩), .int .i64 first, .int .i64 count], .int .i64 a, .int .i64 n] w' (ReadTold w' (zs, er))) := fun w' h' => by
      have := rgread_any Br Lr r qr first count a n w' h'.g h'.gq hf9
      rwa [HS.out.gread, hrd] at this
    have RF : Hid (∀ w', FR W w' B q L s Br qr Lr r → Calls Try.prog 45 #[.agg #[.pointer (some ⟨q, 0, none⟩), .int .i64 first, .int .i64 count], .int .i64 a, .int .i64 n] w' (ReadTold w' (zs, er))) := fun w' h' => by
      have := lgread h'.f hf9 a n
      rwa [hrd] at this
    clear hrd
    go_wp2_with fail
    refine (RF.out _ H2.out).mono ?_
    rintro e w3 ⟨v3, rfl, o3, k3⟩
    obtain ⟨A3, c3, rfl, b3⟩ := slice_of_own o3
    have H3 := Lib.hid (H2.out.later k3)
    have P3 := Lib.hid (P2.out.later k3)
    have LK3 := Lib.hid (LK2.out.later k3)
    have B3 := Lib.hid b3
    clear o3 k3 b3 x0 x1 x2 x3 y0 y1 y2 z0 z1 z2 RF
    -- P3.out a Box3
    have y0 := (P3.out).r.cellD 0 _ rfl
    have y1 := (P3.out).r.cellD 1 _ rfl
    have y2 := (P3.out).r.cellD 2 _ rfl
    have z0 := (P3.out).s.cellD 0 _ rfl
    have z1 := (P3.out).s.cellD 1 _ rfl
    have z2 := (P3.out).s.cellD 2 _ rfl
    have x0 := (P3.out).a.cellD 0 _ rfl
    have x1 := (P3.out).a.cellD 1 _ rfl
    have x2 := (P3.out).a.cellD 2 _ rfl
    have x3 := (P3.out).a.cellD 3 _ rfl
    go_wp2_with fail
    refine (RD.out _ H3.out).mono ?_
    rintro e w4 ⟨v4, rfl, o4, k4⟩
    obtain ⟨A4, c4, rfl, b4⟩ := slice_of_own o4
    have H4 := Lib.hid (H3.out.later k4)
    have LK4 := Lib.hid (LK3.out.later k4)
    obtain ⟨sz, hsz⟩ : ∃ sz, strOf zs = sz := ⟨_, rfl⟩
    have s3 := run_str (B3.out.keeps k4 (fun _ _ _ _ _ h => h))
    have s4 := run_str b4
    rw [hsz] at s3 s4
    have qz : (sz.toList == sz.toList) = true := by simp
    clear o4 k4 b4 x0 x1 x2 x3 y0 y1 y2 z0 z1 z2 RD hsz
    go_wp2_with fail
    refine (num3_any _ _).mono ?_
    rintro e w' ⟨rfl, rfl⟩
    go_wp2
    go_ret
    exact ⟨by first | rfl | simp, L, s, Lr, r, H4.out, HS.out, HR.out.less (by omega), rfl, LK4.out⟩
  have e1 : decide (k = 1) = false := decide_eq_false q1
  by_cases q2 : k = 2
  · subst q2
    have SI := Lib.hid (HS.out.gprog first count a bs (by rw [HL.out]; omega))
    have RM := Lib.hid (HR.out.gprogF first count a (zs := bs) (by rw [HL.out]; exact hbl))
    have EL : Hid ((s.gprog first count a bs).1.er.length = s.er.length) := by show _ = _; rw [(gprog_more s first count a bs).1]
    clear x1 x2 x3 y0 y1 y2 z0 z1 z2
    -- 4,5,11 14 E n, lgprogram H2.out.drew.f hf9 (LB.out.later (Keeps.refl None w2).drew) a (by omega) f's contract at H2.drew, rgprogram_any Br Lr r qr first count a A bl bc bs w3 H3.out.g H3.out.gq hf9 (RB.out w3 Lr r H3.out.keeps H3.out.g) (by rw [HS.out.steps]; omega) rf's contract at H3
    go_wp2
    obtain ⟨mS, mh⟩ : ∃ S : World → Prop, ∀ w', S w' ↔ (w'.cell? ⟨pr, 0, none⟩ = some (.pointer (some ⟨q, 0, none⟩)) ∧ w'.cell? ⟨pr, 1, none⟩ = some (.int .i64 first) ∧ w'.cell? ⟨pr, 2, none⟩ = some (.int .i64 count) ∧ w'.cell? ⟨ps, 0, none⟩ = some (.pointer (some ⟨qr, 0, none⟩)) ∧ w'.cell? ⟨ps, 1, none⟩ = some (.int .i64 first) ∧ w'.cell? ⟨ps, 2, none⟩ = some (.int .i64 count) ∧ w'.cell? ⟨pa, 1, none⟩ = some (.int .i64 a) ∧ w'.cell? ⟨pa, 3, none⟩ = some (.slice A bl bc)) := ⟨_, fun _ => Iff.rfl⟩
    have mk0 : ∀ x : Memb mS, x.at_.cell? ⟨pr, 0, none⟩ = some (.pointer (some ⟨q, 0, none⟩)) := fun x => ((mh _).1 x.is).1
    have mk1 : ∀ x : Memb mS, x.at_.cell? ⟨pr, 1, none⟩ = some (.int .i64 first) := fun x => ((mh _).1 x.is).2.1
    have mk2 : ∀ x : Memb mS, x.at_.cell? ⟨pr, 2, none⟩ = some (.int .i64 count) := fun x => ((mh _).1 x.is).2.2.1
    have mk3 : ∀ x : Memb mS, x.at_.cell? ⟨ps, 0, none⟩ = some (.pointer (some ⟨qr, 0, none⟩)) := fun x => ((mh _).1 x.is).2.2.2.1
    have mk4 : ∀ x : Memb mS, x.at_.cell? ⟨ps, 1, none⟩ = some (.int .i64 first) := fun x => ((mh _).1 x.is).2.2.2.2.1
    have mk5 : ∀ x : Memb mS, x.at_.cell? ⟨ps, 2, none⟩ = some (.int .i64 count) := fun x => ((mh _).1 x.is).2.2.2.2.2.1
    have mk6 : ∀ x : Memb mS, x.at_.cell? ⟨pa, 1, none⟩ = some (.int .i64 a) := fun x => ((mh _).1 x.is).2.2.2.2.2.2.1
    have mk7 : ∀ x : Memb mS, x.at_.cell? ⟨pa, 3, none⟩ = some (.slice A bl bc) := fun x => ((mh _).1 x.is).2.2.2.2.2.2.2
    have mn : Nonempty (Memb mS) := ⟨⟨(w2).drew, (mh _).2 ⟨P2.out.r.cellD 0 _ rfl, P2.out.r.cellD 1 _ rfl, P2.out.r.cellD 2 _ rfl, P2.out.s.cellD 0 _ rfl, P2.out.s.cellD 1 _ rfl, P2.out.s.cellD 2 _ rfl, P2.out.a.cellD 1 _ rfl, P2.out.a.cellD 3 _ rfl⟩⟩⟩
    have mH := Lib.hid mh
    clear mh
    refine wp_region_mix [4, 5, 11] (InS mS) (by kernel_rfl) (by kernel_rfl) (InS.mk ((mH.out _).2 ⟨P2.out.r.cellD 0 _ rfl, P2.out.r.cellD 1 _ rfl, P2.out.r.cellD 2 _ rfl, P2.out.s.cellD 0 _ rfl, P2.out.s.cellD 1 _ rfl, P2.out.s.cellD 2 _ rfl, P2.out.a.cellD 1 _ rfl, P2.out.a.cellD 3 _ rfl⟩)) ?_
    refine wpMix_seg 4 (by kernel_rfl) (by decide) ?_
    simp only [List.take_succ_cons, List.take_zero, List.drop_succ_cons, List.drop_zero]
    repeat (go_big_quiet_step (fail))
    refine wpQuiet_nil ?_
    refine wpMix_eff (by kernel_rfl) ?_
    go_wp2_with fail
    refine (lgprogram H2.out.drew.f hf9 (LB.out.later (Keeps.refl None w2).drew) a (by omega)).mono ?_
    rintro e w3 ⟨rfl, L3, -, t3⟩
    have H3 := Lib.hid (H2.out.drew.turnF t3)
    have P3 := Lib.hid ((P2.out.later (Keeps.refl None w2).drew).keeps t3.keeps NPF.out)
    go_wp2
    refine MixK.on (InS.mk ((mH.out _).2 (P3.out.c))) ?_
    refine wpMix_eff (by kernel_rfl) ?_
    go_wp2_with fail
    refine (num3_any _ _).mono ?_
    rintro e w' ⟨rfl, rfl⟩
    go_wp2
    refine MixK.on (InS.mk ((mH.out _).2 (P3.out.c))) ?_
    refine wpMix_seg 5 (by kernel_rfl) (by decide) ?_
    simp only [List.take_succ_cons, List.take_zero, List.drop_succ_cons, List.drop_zero]
    repeat (go_big_quiet_step (fail))
    refine wpQuiet_nil ?_
    refine wpMix_eff (by kernel_rfl) ?_
    go_wp2_with fail
    refine (rgprogram_any Br Lr r qr first count a A bl bc bs w3 H3.out.g H3.out.gq hf9 (RB.out w3 Lr r H3.out.keeps H3.out.g) (by rw [HS.out.steps]; omega)).mono ?_
    rintro e w4 ⟨rfl, Lr4, t4⟩
    rw [SI.out.2]
    have H4 := Lib.hid (H3.out.turnR t4)
    have P4 := Lib.hid (P3.out.keeps t4.keeps NPR.out)
    have LK4 := Lib.hid (((LK2.out.later (Keeps.refl None w2).drew).turnF t3).turnR t4)
    go_wp2
    refine MixK.on (InS.mk ((mH.out _).2 (P4.out.c))) ?_
    refine wpMix_seg 2 (by kernel_rfl) (by decide) ?_
    simp only [List.take_succ_cons, List.take_zero, List.drop_succ_cons, List.drop_zero]
    repeat (go_big_quiet_step (fail))
    refine wpQuiet_nil ?_
    refine wpMix_nil ?_
    clear mk0 mk1 mk2 mk3 mk4 mk5 mk6 mk7 mn mH
    go_wp2
    go_ret
    exact ⟨by first | rfl | simp, L3, _, Lr4, _, H4.out, SI.out.1, RM.out, EL.out, LK4.out⟩
  have e2 : decide (k = 2) = false := decide_eq_false q2
  by_cases q3 : k = 3
  · subst q3
    have SI := Lib.hid (HS.out.gerase first count a (by omega))
    have RM : Hid (Room (s.gerase first count a).1 m) := Room.erase (HR.out.less (by omega)) first count a
    have EL := Lib.hid (gerase_len s first count a)
    have ER := Lib.hid HR.out.er
    clear x1 x2 x3 y0 y1 y2 z0 z1 z2
    -- 3,4,8 11 E n, lgerase H2.out.drew.f hf9 a (by omega) (fun i => by have := ER.out i; omega) f's contract at H2.drew, rgerase_any Br Lr r qr first count a w3 H3.out.g H3.out.gq hf9 (by rw [HS.out.steps]; omega) (fun i => by rw [HS.out.er]; have := ER.out i; omega) rf's contract at H3
    go_wp2
    obtain ⟨mS, mh⟩ : ∃ S : World → Prop, ∀ w', S w' ↔ (w'.cell? ⟨pr, 0, none⟩ = some (.pointer (some ⟨q, 0, none⟩)) ∧ w'.cell? ⟨pr, 1, none⟩ = some (.int .i64 first) ∧ w'.cell? ⟨pr, 2, none⟩ = some (.int .i64 count) ∧ w'.cell? ⟨ps, 0, none⟩ = some (.pointer (some ⟨qr, 0, none⟩)) ∧ w'.cell? ⟨ps, 1, none⟩ = some (.int .i64 first) ∧ w'.cell? ⟨ps, 2, none⟩ = some (.int .i64 count) ∧ w'.cell? ⟨pa, 1, none⟩ = some (.int .i64 a) ∧ w'.cell? ⟨pa, 3, none⟩ = some (.slice A bl bc)) := ⟨_, fun _ => Iff.rfl⟩
    have mk0 : ∀ x : Memb mS, x.at_.cell? ⟨pr, 0, none⟩ = some (.pointer (some ⟨q, 0, none⟩)) := fun x => ((mh _).1 x.is).1
    have mk1 : ∀ x : Memb mS, x.at_.cell? ⟨pr, 1, none⟩ = some (.int .i64 first) := fun x => ((mh _).1 x.is).2.1
    have mk2 : ∀ x : Memb mS, x.at_.cell? ⟨pr, 2, none⟩ = some (.int .i64 count) := fun x => ((mh _).1 x.is).2.2.1
    have mk3 : ∀ x : Memb mS, x.at_.cell? ⟨ps, 0, none⟩ = some (.pointer (some ⟨qr, 0, none⟩)) := fun x => ((mh _).1 x.is).2.2.2.1
    have mk4 : ∀ x : Memb mS, x.at_.cell? ⟨ps, 1, none⟩ = some (.int .i64 first) := fun x => ((mh _).1 x.is).2.2.2.2.1
    have mk5 : ∀ x : Memb mS, x.at_.cell? ⟨ps, 2, none⟩ = some (.int .i64 count) := fun x => ((mh _).1 x.is).2.2.2.2.2.1
    have mk6 : ∀ x : Memb mS, x.at_.cell? ⟨pa, 1, none⟩ = some (.int .i64 a) := fun x => ((mh _).1 x.is).2.2.2.2.2.2.1
    have mk7 : ∀ x : Memb mS, x.at_.cell? ⟨pa, 3, none⟩ = some (.slice A bl bc) := fun x => ((mh _).1 x.is).2.2.2.2.2.2.2
    have mn : Nonempty (Memb mS) := ⟨⟨(w2).drew, (mh _).2 ⟨P2.out.r.cellD 0 _ rfl, P2.out.r.cellD 1 _ rfl, P2.out.r.cellD 2 _ rfl, P2.out.s.cellD 0 _ rfl, P2.out.s.cellD 1 _ rfl, P2.out.s.cellD 2 _ rfl, P2.out.a.cellD 1 _ rfl, P2.out.a.cellD 3 _ rfl⟩⟩⟩
    have mH := Lib.hid mh
    clear mh
    refine wp_region_mix [3, 4, 8] (InS mS) (by kernel_rfl) (by kernel_rfl) (InS.mk ((mH.out _).2 ⟨P2.out.r.cellD 0 _ rfl, P2.out.r.cellD 1 _ rfl, P2.out.r.cellD 2 _ rfl, P2.out.s.cellD 0 _ rfl, P2.out.s.cellD 1 _ rfl, P2.out.s.cellD 2 _ rfl, P2.out.a.cellD 1 _ rfl, P2.out.a.cellD 3 _ rfl⟩)) ?_
    refine wpMix_seg 3 (by kernel_rfl) (by decide) ?_
    simp only [List.take_succ_cons, List.take_zero, List.drop_succ_cons, List.drop_zero]
    repeat (go_big_quiet_step (fail))
    refine wpQuiet_nil ?_
    refine wpMix_eff (by kernel_rfl) ?_
    go_wp2_with fail
    refine (lgerase H2.out.drew.f hf9 a (by omega) (fun i => by have := ER.out i; omega)).mono ?_
    rintro e w3 ⟨rfl, L3, -, t3⟩
    have H3 := Lib.hid (H2.out.drew.turnF t3)
    have P3 := Lib.hid ((P2.out.later (Keeps.refl None w2).drew).keeps t3.keeps NPF.out)
    go_wp2
    refine MixK.on (InS.mk ((mH.out _).2 (P3.out.c))) ?_
    refine wpMix_eff (by kernel_rfl) ?_
    go_wp2_with fail
    refine (num3_any _ _).mono ?_
    rintro e w' ⟨rfl, rfl⟩
    go_wp2
    refine MixK.on (InS.mk ((mH.out _).2 (P3.out.c))) ?_
    refine wpMix_seg 3 (by kernel_rfl) (by decide) ?_
    simp only [List.take_succ_cons, List.take_zero, List.drop_succ_cons, List.drop_zero]
    repeat (go_big_quiet_step (fail))
    refine wpQuiet_nil ?_
    refine wpMix_eff (by kernel_rfl) ?_
    go_wp2_with fail
    refine (rgerase_any Br Lr r qr first count a w3 H3.out.g H3.out.gq hf9 (by rw [HS.out.steps]; omega) (fun i => by rw [HS.out.er]; have := ER.out i; omega)).mono ?_
    rintro e w4 ⟨rfl, Lr4, t4⟩
    rw [SI.out.2]
    have H4 := Lib.hid (H3.out.turnR t4)
    have P4 := Lib.hid (P3.out.keeps t4.keeps NPR.out)
    have LK4 := Lib.hid (((LK2.out.later (Keeps.refl None w2).drew).turnF t3).turnR t4)
    go_wp2
    refine MixK.on (InS.mk ((mH.out _).2 (P4.out.c))) ?_
    refine wpMix_seg 2 (by kernel_rfl) (by decide) ?_
    simp only [List.take_succ_cons, List.take_zero, List.drop_succ_cons, List.drop_zero]
    repeat (go_big_quiet_step (fail))
    refine wpQuiet_nil ?_
    refine wpMix_nil ?_
    clear mk0 mk1 mk2 mk3 mk4 mk5 mk6 mk7 mn mH
    go_wp2
    go_ret
    exact ⟨by first | rfl | simp, L3, _, Lr4, _, H4.out, SI.out.1, RM.out, EL.out, LK4.out⟩
  have e3 : decide (k = 3) = false := decide_eq_false q3
  by_cases q4 : k = 4
  · subst q4
    obtain ⟨bk, er, hrd⟩ : ∃ bk er, s.gblank first count a = (bk, er) := ⟨_, _, rfl⟩
    have RD : Hid (∀ w', FR W w' B q L s Br qr Lr r → Calls Try.prog 91 #[.agg #[.pointer (some ⟨qr, 0, none⟩), .int .i64 first, .int .i64 count], .int .i64 a] w' (Pure (.tuple #[.bool bk, .int .i64 er]) w')) := fun w' h' => by
      have := rgblank_any Br Lr r qr first count a w' h'.g h'.gq HGC.out
      rwa [HS.out.gblank, hrd] at this
    have RF : Hid (∀ w', FR W w' B q L s Br qr Lr r → Calls Try.prog 46 #[.agg #[.pointer (some ⟨q, 0, none⟩), .int .i64 first, .int .i64 count], .int .i64 a] w' (Pure (.tuple #[.bool bk, .int .i64 er]) w')) := fun w' h' => by
      have := lgblank h'.f HFC.out a
      rwa [hrd] at this
    clear hrd
    go_wp2_with fail
    refine (RF.out _ H2.out).mono ?_
    rintro e w3 ⟨rfl, k3⟩
    have H3 := Lib.hid (H2.out.later k3)
    have P3 := Lib.hid (P2.out.later k3)
    have LK3 := Lib.hid (LK2.out.later k3)
    clear k3 x0 x1 x2 x3 y0 y1 y2 z0 z1 z2 RF
    -- P3.out a Box3
    have y0 := (P3.out).r.cellD 0 _ rfl
    have y1 := (P3.out).r.cellD 1 _ rfl
    have y2 := (P3.out).r.cellD 2 _ rfl
    have z0 := (P3.out).s.cellD 0 _ rfl
    have z1 := (P3.out).s.cellD 1 _ rfl
    have z2 := (P3.out).s.cellD 2 _ rfl
    have x0 := (P3.out).a.cellD 0 _ rfl
    have x1 := (P3.out).a.cellD 1 _ rfl
    have x2 := (P3.out).a.cellD 2 _ rfl
    have x3 := (P3.out).a.cellD 3 _ rfl
    go_wp2_with fail
    refine (RD.out _ H3.out).mono ?_
    rintro e w4 ⟨rfl, k4⟩
    have H4 := Lib.hid (H3.out.later k4)
    have LK4 := Lib.hid (LK3.out.later k4)
    have qb : (bk == bk) = true := by simp
    clear k4 x0 x1 x2 x3 y0 y1 y2 z0 z1 z2 RD
    go_wp2_with fail
    refine (num3_any _ _).mono ?_
    rintro e w' ⟨rfl, rfl⟩
    go_wp2
    go_ret
    exact ⟨by first | rfl | simp, L, s, Lr, r, H4.out, HS.out, HR.out.less (by omega), rfl, LK4.out⟩
  have e4 : decide (k = 4) = false := decide_eq_false q4
  -- Arm, Boot and the rest
  by_cases q5 : k = 5
  · subst q5
    have SI := Lib.hid (HS.out.arm n bs st1)
    have RM := Lib.hid (HR.out.armF n bs)
    have EL : Hid ((s.armF n bs).er.length = s.er.length) := by show _ = _; unfold FS.armF; split <;> rfl
    go_wp2_with fail
    refine (larm H2.out.f BB.out (by omega) n HN.out).mono ?_
    rintro e w3 ⟨rfl, L3, -, t3⟩
    have H3 := Lib.hid (H2.out.turnF t3)
    have P3 := Lib.hid (P2.out.keeps t3.keeps NPF.out)
    have LK3 := Lib.hid (LK2.out.turnF t3)
    clear x0 x1 x2 x3 y0 y1 y2 z0 z1 z2 t3
    -- P3.out a Box3
    have y0 := (P3.out).r.cellD 0 _ rfl
    have y1 := (P3.out).r.cellD 1 _ rfl
    have y2 := (P3.out).r.cellD 2 _ rfl
    have z0 := (P3.out).s.cellD 0 _ rfl
    have z1 := (P3.out).s.cellD 1 _ rfl
    have z2 := (P3.out).s.cellD 2 _ rfl
    have x0 := (P3.out).a.cellD 0 _ rfl
    have x1 := (P3.out).a.cellD 1 _ rfl
    have x2 := (P3.out).a.cellD 2 _ rfl
    have x3 := (P3.out).a.cellD 3 _ rfl
    go_wp2_with fail
    refine (rfarm_any Br Lr r qr n A bl bc bs w3 H3.out.g H3.out.gq (RB.out w3 Lr r H3.out.keeps H3.out.g) (by omega)).mono ?_
    rintro e w4 ⟨rfl, Lr4, t4⟩
    have H4 := Lib.hid (H3.out.turnR t4)
    have LK4 := Lib.hid (LK3.out.turnR t4)
    clear t4
    go_wp2
    go_ret
    exact ⟨rfl, L3, _, Lr4, _, H4.out, SI.out, RM.out, EL.out, LK4.out⟩
  have e5 : decide (k = 5) = false := decide_eq_false q5
  by_cases q6 : k = 6
  · subst q6
    have SI := Lib.hid HS.out.boot
    have RM := Lib.hid HR.out.bootF
    have EL : Hid (s.bootF.er.length = s.er.length) := rfl
    go_wp2_with fail
    refine (lboot H2.out.f).mono ?_
    rintro e w3 ⟨rfl, L3, -, t3⟩
    have H3 := Lib.hid (H2.out.turnF t3)
    have LK3 := Lib.hid (LK2.out.turnF t3)
    clear x0 x1 x2 x3 y0 y1 y2 z0 z1 z2 t3
    go_wp2_with fail
    refine (rfboot_any Br Lr r qr w3 H3.out.g H3.out.gq).mono ?_
    rintro e w4 ⟨rfl, Lr4, t4⟩
    have H4 := Lib.hid (H3.out.turnR t4)
    have LK4 := Lib.hid (LK3.out.turnR t4)
    clear t4
    go_wp2
    go_ret
    exact ⟨rfl, L3, _, Lr4, _, H4.out, SI.out, RM.out, EL.out, LK4.out⟩
  have e6 : decide (k = 6) = false := decide_eq_false q6
  go_wp2
  go_ret
  exact ⟨rfl, L, s, Lr, r, H2.out, HS.out, HR.out.less (by omega), rfl, LK2.out⟩
end Go.Proofs.Ytngofnlhbhfigaa
