
/- Texts put together: Jn4, Jn5, Jn6, Jn7, Jn8, Rm, Jn9, Jn10, NorHalf, NorTorn, Jp, Lg, Lg2. -/
import Derived.Test.YtobgbilanibodaaGreatLPld
import Derived.Test.YtobgbilanibodaaGreatLPlc
import Derived.Test.YtobgbilanibodaaGreatLPlb
namespace Go.Proofs.YtobgbilanibodaaGreat
open Go.RowKit
def sec (s : FS) (k : Nat) : List Int := (s.b.drop (1024 * k)).take 1024
def selF (s : FS) : Nat → Nat × Int
  | 0 => (0, -1)
  | k + 1 => if ((selF s k).1 : Int) < epochF (sec s k) then ((epochF (sec s k)).toNat, (k : Int)) else selF s k
def jnone (e : Nat) (c : Int) : JS := ⟨[], e, c, 0, false, 0⟩
def openS (s : FS) : JS :=
  if (selF s 2).2 = -1 then jnone (selF s 2).1 (selF s 2).2
  else { jnone (selF s 2).1 (selF s 2).2 with l := (parseF 64 (sec s (selF s 2).2.toNat) 16).1, used := (parseF 64 (sec s (selF s 2).2.toNat) 16).2, torn := !blankB ((sec s (selF s 2).2.toNat).drop (parseF 64 (sec s (selF s 2).2.toNat) 16).2) }
theorem selF_cur (s : FS) : ∀ k, (selF s k).2 = -1 ∨ ∃ i : Nat, i < k ∧ (selF s k).2 = i
  | 0 => .inl rfl
  | k + 1 => by
    unfold selF
    split
    · exact .inr ⟨k, Nat.lt_succ_self _, rfl⟩
    · rcases selF_cur s k with h | ⟨i, hi, h⟩
      · exact .inl h
      · exact .inr ⟨i, by omega, h⟩
theorem sec_len {s : FS} {k : Nat} (h : 1024 * k + 1024 ≤ s.b.length) : (sec s k).length = 1024 := by
 unfold sec; rw [List.length_take, List.length_drop]; omega
theorem gread_sec {s : FS} (hd : s.dark = false) (hn : 2048 ≤ s.b.length) {k : Nat} (hk : k < 2) : s.gread 0 2 ((k : Int) * 1024) 1024 = (sec s k, 0) := by
 have h1 : withinB ((k : Int) * 1024) 1024 (1024 * 2 : Nat) = true := decide_eq_true (by omega)
 have h2 : withinB ((1024 * 0 : Nat) + (k : Int) * 1024) 1024 s.b.length = true := decide_eq_true (by omega)
 unfold FS.gread FS.readF
 rw [if_neg (by rw [hd]; decide), if_pos h1, if_neg (by rw [hd]; decide)]
 have e : (1024 * ((0 : Nat) : Int) + (k : Int) * 1024) = ((1024 * 0 : Nat) + (k : Int) * 1024) := by omega
 rw [e, if_pos h2]
 unfold sec
 congr 2
 congr 1
 omega
set_option maxRecDepth 100000 in
theorem jopen_no (p : Option Addr) (first count : Nat) (hc : count ≤ 1000000) (h2 : count ≠ 2) (w : World) : Calls Tryz.prog 54 #[.agg #[.pointer p, .int .i64 first, .int .i64 count]] w (Pure (.tuple #[.pointer none, .int .i64 1]) w) := by
 have SZ := Lib.hid (fun w => gsize_any p first count hc w)
 have e1 : ((1024 * count : Nat) : Int) ≠ 2048 := by omega
 obtain ⟨N, hN⟩ : ∃ N, 1024 * count = N := ⟨_, rfl⟩
 rw [hN] at SZ e1
 have e2 : ((N : Int) != 2048) = true := by simpa using e1
 have e3 : ((N : Int) == 2048) = false := by simpa using e1
 have e4 : (N == 2048) = false := by simp; omega
 clear hN
 go_enter Tryz.func54, Tryz.ntmps54
 go_wp2_with fail
 refine (SZ.out _).mono ?_
 rintro e w1 ⟨rfl, k1⟩
 go_wp2
 go_ret2
 exact ⟨rfl, ((Keeps.refl None w).alloc _).trans k1 (fun _ h => h) (fun _ _ h => h)⟩
theorem tl130 (P : Prop) (h : P := by
 rcases h1 with h1 | h1 | h1 | ⟨r, hr, -⟩
 ·exact .inl h1
 ·have h1 : k = jb := h1
  exact .inr (by have := JBG.out; omega)
 ·cases h1
 ·cases hr) : P := h
theorem tl129 (P : Prop) (h : P := by
 rcases ho k hk with h1 | h1
 ·exact tl130 _
 ·exact .inr (Nat.le_trans HK.out.size h1)) : P := h
set_option maxRecDepth 100000 in
set_option maxHeartbeats 3200000 in
theorem jopen_yes (B : Nat) (L : FL) (s : FS) (q : Nat) (w : World) (h : FAt w B L s) (hq : L.bf = q) (hd : s.dark = false) (hn : 2 ≤ L.n) :
    Calls Tryz.prog 54 #[.agg #[.pointer (some ⟨q, 0, none⟩), .int .i64 0, .int .i64 2]] w fun e w' => ∃ X : JX, e = .returned (.tuple #[.pointer (some ⟨X.jb, 0, none⟩), .int .i64 0]) ∧ JAt w' B q X s (openS s) ∧ X.L = L ∧ Keeps None w w' ∧ ∀ k, X.S k → L.O k ∨ w.heap.size ≤ k := by
 have hbl : 2048 ≤ s.b.length := by have := h.bl; have := h.nN; omega
 have SZ := Lib.hid (fun w => gsize_any (some ⟨q, 0, none⟩) 0 2 (by decide) w)
 have RD : Hid (∀ (k : Nat) (w' : World), k < 2 → Keeps None w w' → Calls Tryz.prog 75 #[.agg #[.pointer (some ⟨q, 0, none⟩), .int .i64 0, .int .i64 2], .int .i64 ((k : Int) * 1024), .int .i64 1024] w' (ReadTold w' (sec s k, 0))) := fun k w' hk hkp => by
  have := gread_any B L s q 0 2 ((k : Int) * 1024) 1024 w' (h.later hkp) hq (by decide)
  rw [gread_sec hd hbl hk] at this
  exact this
 have BL : Hid (∀ k, k < 2 → (sec s k).length = 1024) := fun k hk => sec_len (by omega)
 have HF := Lib.hid h
 have HB : Hid (B ≤ w.heap.size) := by have h1 := h.low L.bf (.inl (.inl rfl)); have h2 := h.lt L.bf (.inl (.inl rfl)); show B ≤ _; omega
 clear h
 go_enter Tryz.func54, Tryz.ntmps54
 go_wp2_with fail
 refine (SZ.out _).mono ?_
 rintro e w1 ⟨rfl, k1⟩
 have K1 := Lib.hid (((Keeps.refl None w).alloc (.cells #[.pointer (some ⟨q, 0, none⟩), .int .i64 0, .int .i64 2] 80)).trans k1 (T := None) (fun _ h => h) (fun _ _ h => h))
 have R1 := Lib.hid (k1.blk (Blk.new w [.pointer (some ⟨q, 0, none⟩), .int .i64 0, .int .i64 2] 80) (fun h => h))
 have y0 := R1.out.cellD 0 _ rfl
 have y1 := R1.out.cellD 1 _ rfl
 have y2 := R1.out.cellD 2 _ rfl
 clear k1
 go_wp2
 obtain ⟨w2, hw2⟩ : ∃ x, w1.alloc (.cells #[.pointer (some ⟨q, 0, none⟩), .int .i64 0, .int .i64 2, .slice none 0 0, .int .i64 0, .int .i64 (-1), .int .i64 0, .bool false, .int .i64 0] 125) = x := ⟨_, rfl⟩
 obtain ⟨jb, hjb⟩ : ∃ x, w1.heap.size = x := ⟨_, rfl⟩
 have K2 : Hid (Keeps None w w2) := by show Keeps _ _ _; rw [← hw2]; exact K1.out.alloc _
 have R2 : Hid (Blk w2 w.heap.size [.pointer (some ⟨q, 0, none⟩), .int .i64 0, .int .i64 2] 80) := by show Blk _ _ _ _; rw [← hw2]; exact R1.out.alloc _
 have JBG : Hid (w.heap.size < jb) := by show _ < _; rw [← hjb]; exact R1.out.lt
 have J2 : Hid (JAt w2 B q ⟨L, jb, .slice none 0 0, []⟩ s (jnone 0 (-1))) := by
  refine ⟨HF.out.later K2.out, hq, ?_, OwnR.nil _ _, Bds.nil _ _, rfl, fun hO => ?_, Nat.le_trans HB.out (Nat.le_of_lt JBG.out), fun b e => by cases e⟩
  ·show Blk w2 jb _ _
   rw [← hw2, ← hjb]
   exact Blk.new _ [_, _, _, _, _, _, _, _, _] _
  ·have h1 := HF.out.lt jb hO; have h2 := JBG.out; omega
 rw [hw2, hjb]
 clear hw2 hjb K1 R1 y0 y1 y2
 go_loopw [5, 16] (fun nv iv wr => ∃ k : Nat, k ≤ 2 ∧ iv = .int .i64 (k : Int) ∧ JAt wr B q ⟨L, jb, .slice none 0 0, []⟩ s (jnone (selF s k).1 (selF s k).2) ∧ Keeps None w wr ∧ Blk wr w.heap.size [.pointer (some ⟨q, 0, none⟩), .int .i64 0, .int .i64 2] 80 ∧
  (((selF s k).2 = -1 ∧ nv = .slice none 0 0) ∨ ∃ (A : Option Addr) (cap i : Nat), (selF s k).2 = (i : Int) ∧ nv = .slice A 1024 cap ∧ Bs wr A 1024 cap (sec s i) ∧ ∀ b off, A = some ⟨b, off, none⟩ → ¬ JX.S ⟨L, jb, .slice none 0 0, []⟩ b)) (fun _ iv _ => 2 - (intOf iv).toNat)
 case atStart => exact ⟨0, by decide, rfl, J2.out, K2.out, R2.out, .inl ⟨rfl, rfl⟩⟩
 case round =>
  clear J2 K2 R2
  obtain ⟨k, hk, rfl, hj, hkp, hr, hnv⟩ := hrel
  obtain ⟨wv, rfl⟩ : ∃ x, x = wr := ⟨_, rfl⟩
  have HJ := Lib.hid hj
  have HK := Lib.hid hkp
  have HR := Lib.hid hr
  have HN := Lib.hid hnv
  clear hj hkp hr hnv
  by_cases hlt : k < 2
  ·have x0 := HR.out.cellD 0 _ rfl
   have x1 := HR.out.cellD 1 _ rfl
   have x2 := HR.out.cellD 2 _ rfl
   have RK := Lib.hid (RD.out k wv hlt HK.out)
   have LK := Lib.hid (BL.out k hlt)
   obtain ⟨zs, HZS⟩ : ∃ x, Hid (sec s k = x) := ⟨_, rfl⟩
   have SELS : Hid (selF s (k + 1) = if ((selF s k).1 : Int) < epochF zs then ((epochF zs).toNat, (k : Int)) else selF s k) := by show _ = _; rw [← HZS.out]; rfl
   rw [HZS.out] at RK LK
   go_wp2_with fail
   refine RK.out.mono ?_
   rintro e w3 ⟨v3, rfl, o3, k3⟩
   obtain ⟨A3, c3, rfl, b3, in3⟩ := o3.shape
   rw [LK.out] at b3 ⊢
   have B3 := Lib.hid b3
   have I3 := Lib.hid in3
   have K3 := Lib.hid k3
   have l3 := b3.le
   have m3 := b3.max
   clear o3 k3 b3 in3
   go_wp2_with fail
   refine (jepochof_any A3 1024 c3 zs w3 B3.out (by decide)).mono ?_
   rintro e w4 ⟨rfl, k4⟩
   have K34 := Lib.hid (K3.out.trans k4 (T := None) (fun _ h => h) (fun _ _ h => h))
   have K4 := Lib.hid (HK.out.trans K34.out (T := None) (fun _ h => h) (fun _ _ h => h))
   have B4 := Lib.hid (B3.out.keeps k4 (fun _ _ _ _ _ h => h))
   have J4 := Lib.hid (HJ.out.later K34.out)
   have R4 := Lib.hid (K34.out.blk HR.out (fun h => h))
   have NS3 : Hid (∀ b off, A3 = some ⟨b, off, none⟩ → ¬ JX.S ⟨L, jb, .slice none 0 0, []⟩ b) := fun b off e hS => by
    have h1 := (I3.out b off e).1
    have h2 := HJ.out.lt b hS
    omega
   obtain ⟨E, hE⟩ : ∃ E : Nat, epochF zs = E := ⟨(epochF zs).toNat, by have := epochF_bd zs; omega⟩
   rw [hE] at SELS ⊢
   rw [Int.toNat_natCast] at SELS
   have hE4 : E ≤ 4294967295 := by have := (epochF_bd zs).2; omega
   clear k4 hE K3 B3 I3
   obtain ⟨⟨e0, c0⟩, HSE⟩ : ∃ x, Hid (selF s k = x) := ⟨_, rfl⟩
   rw [HSE.out] at J4 SELS HN
   dsimp only at J4 SELS HN
   have y4 := J4.out.c.cellD 4 _ rfl
   have y5 := J4.out.c.cellD 5 _ rfl
   have f4 := J4.out.c.frozen 4
   have f5 := J4.out.c.frozen 5
   dsimp only [jnone] at y4 y5 f4 f5
   by_cases hgt : e0 < E
   ·have d1 : decide ((e0 : Int) < (E : Int)) = true := decide_eq_true (by omega)
    have d1n : decide (e0 < E) = true := decide_eq_true hgt
    have S2 : Hid (selF s (k + 1) = (E, (k : Int))) := SELS.out.trans (if_pos (by omega))
    have P4 := Lib.hid (J4.out.put (j' := jnone E c0) 4 (.int .i64 (E : Int)) rfl rfl)
    have P5 := Lib.hid (P4.out.at_.put (j' := jnone E k) 5 (.int .i64 (k : Int)) rfl rfl)
    have JJ : Hid (w.heap.size ≤ jb) := Nat.le_of_lt JBG.out
    go_wp2
    go_roundw
    case rel =>
     refine ⟨k + 1, hlt, by go_num, by rw [S2.out]; exact P5.out.at_, (K4.out.setCell _ _ (fun h => absurd h (Nat.not_lt.2 JJ.out))).setCell _ _ (fun h => absurd h (Nat.not_lt.2 JJ.out)), (R4.out.setOther _ _ (Nat.ne_of_lt JBG.out)).setOther _ _ (Nat.ne_of_lt JBG.out), .inr ⟨A3, c3, k, by rw [S2.out], rfl, ?_, NS3.out⟩⟩
     rw [HZS.out]
     exact B4.out.keeps (S := fun b => b = jb) (((Keeps.self jb w4).put 4 _).put 5 _) (fun b off h0 _ e hb => NS3.out b off e (.inr (.inl hb)))
    case measure => simp [intOf]; omega
   ·have d1 : decide ((e0 : Int) < (E : Int)) = false := decide_eq_false (by omega)
    have d1n : decide (e0 < E) = false := decide_eq_false hgt
    have S2 : Hid (selF s (k + 1) = (e0, c0)) := SELS.out.trans (if_neg (by omega))
    go_wp2
    go_roundw
    case rel =>
     refine ⟨k + 1, hlt, by go_num, by rw [S2.out]; exact J4.out, K4.out, R4.out, ?_⟩
     rw [S2.out]
     rcases HN.out with h1 | ⟨A, cap, i, h1, h2, h3, h4⟩
     ·exact .inl h1
     ·exact .inr ⟨A, cap, i, h1, h2, h3.keeps K34.out (fun _ _ _ _ _ h => h), h4⟩
    case measure => simp [intOf]; omega
  ·obtain rfl : k = 2 := by omega
   have OS : Hid (openS s = if (selF s 2).2 = -1 then jnone (selF s 2).1 (selF s 2).2 else { jnone (selF s 2).1 (selF s 2).2 with l := (parseF 64 (sec s (selF s 2).2.toNat) 16).1, used := (parseF 64 (sec s (selF s 2).2.toNat) 16).2, torn := !blankB ((sec s (selF s 2).2.toNat).drop (parseF 64 (sec s (selF s 2).2.toNat) 16).2) }) := rfl
   obtain ⟨⟨e0, c0⟩, HSE⟩ : ∃ x, Hid (selF s 2 = x) := ⟨_, rfl⟩
   rw [HSE.out] at HJ OS HN
   dsimp only at HJ OS HN
   have y5 := HJ.out.c.cellD 5 _ rfl
   dsimp only [jnone] at y5
   have SUB : Hid (∀ (X : JX), X.jb = jb → (∀ k, X.S k → JX.S ⟨L, jb, .slice none 0 0, []⟩ k ∨ wv.heap.size ≤ k) → ∀ k, X.S k → L.O k ∨ w.heap.size ≤ k) := fun X _ ho k hk => by
    exact tl129 _
   rcases HN.out with ⟨h1, rfl⟩ | ⟨A, cap, i, h1, rfl, hbs, hns⟩
   ·subst h1
    rw [if_pos rfl] at OS
    clear HN HSE
    go_wp2
    go_ret2
    exact ⟨⟨L, jb, .slice none 0 0, []⟩, rfl, by rw [OS.out]; exact HJ.out, rfl, HK.out, SUB.out _ rfl (fun k h => .inl h)⟩
   ·subst h1
    have e1 : ((i : Int) == -1) = false := by simp
    have e1n : ((i : Int) != -1) = true := by simp
    rw [if_neg (by omega), Int.toNat_natCast] at OS
    have hle := hbs.le
    have hmx := hbs.max
    have HBS := Lib.hid hbs
    have HNS := Lib.hid hns
    clear HN HSE hbs hns
    go_wp2_with fail
    refine (jread_any B q ⟨L, jb, .slice none 0 0, []⟩ s (jnone e0 i) A cap (sec s i) wv HJ.out HBS.out HNS.out (Nat.zero_le _)).mono ?_
    rintro e w5 ⟨rfl, X', t5⟩
    have T5 := Lib.hid t5
    have XJ : Hid (X'.jb = jb) := t5.jb
    have K5 : Hid (Keeps None w w5) := HK.out.trans t5.k (T := None) (fun _ h => h) (fun k hk hS => by
     obtain ⟨hS, hO⟩ := hS
     rcases hS with h1 | h1 | h1 | ⟨r, hr, -⟩
     ·exact absurd h1 hO
     ·have h1 : k = jb := h1
      have := JBG.out; omega
     ·cases h1
     ·cases hr)
    clear t5
    go_wp2
    go_ret2
    exact ⟨X', by rw [XJ.out]; rfl, by rw [OS.out]; exact T5.out.at_, T5.out.l, K5.out, SUB.out _ XJ.out T5.out.o⟩
open Go.RowKit
theorem rcells_set2 : ∀ (rs : List RV) (k : Nat) (r : RV) (_ : rs[k]? = some r) (A : Option Addr) (c : Nat) (b : List Int), (rcells rs).set (k * 3 + 2) (.slice A b.length c) = rcells (rs.set k { r with A := A, c := c, b := b })
  | [], k, r, h, _, _, _ => by simp at h
  | x :: xs, 0, r, h, A, c, b => by
    obtain rfl : x = r := by simpa using h
    rfl
  | x :: xs, k + 1, r, h, A, c, b => by
    have ih := rcells_set2 xs k r (by simpa using h) A c b
    rw [show (k + 1) * 3 + 2 = (k * 3 + 2) + 1 + 1 + 1 by omega]
    simp only [rcells, rcell, List.cons_append, List.nil_append, List.set_cons_succ, ih]
theorem rcells_set1 : ∀ (rs : List RV) (k : Nat) (r : RV) (_ : rs[k]? = some r) (s : Int), (rcells rs).set (k * 3 + 1) (.int .i64 s) = rcells (rs.set k { r with s := s })
  | [], k, r, h, _ => by simp at h
  | x :: xs, 0, r, h, s => by
    obtain rfl : x = r := by simpa using h
    rfl
  | x :: xs, k + 1, r, h, s => by
    have ih := rcells_set1 xs k r (by simpa using h) s
    rw [show (k + 1) * 3 + 1 = (k * 3 + 1) + 1 + 1 + 1 by omega]
    simp only [rcells, rcell, List.cons_append, List.nil_append, List.set_cons_succ, ih]
theorem OwnR.store2 {w : World} {B g n cap : Nat} {rs : List RV} (h : OwnR w B (.slice (some ⟨g, 0, none⟩) n cap) rs) {k : Nat} {r : RV} (hr : rs[k]? = some r) (A : Option Addr) (c : Nat) (b : List Int) :
    OwnR (w.setCell ⟨g, k * 3 + 2, none⟩ (.slice A b.length c)) B (.slice (some ⟨g, 0, none⟩) n cap) (rs.set k { r with A := A, c := c, b := b }) := by
 have hn : n = rs.length := by
  rcases h.2 with ⟨e, _⟩ | ⟨_, _, _, e, _⟩
  ·cases e
  ·cases e; rfl
 subst hn
 have := (h.stored (k * 3 + 2) (.slice A b.length c)).1
 rw [rcells_set2 rs k r hr A c b] at this
 unfold OwnR
 rw [List.length_set]
 exact this
theorem OwnR.store1 {w : World} {B g n cap : Nat} {rs : List RV} (h : OwnR w B (.slice (some ⟨g, 0, none⟩) n cap) rs) {k : Nat} {r : RV} (hr : rs[k]? = some r) (s : Int) :
    OwnR (w.setCell ⟨g, k * 3 + 1, none⟩ (.int .i64 s)) B (.slice (some ⟨g, 0, none⟩) n cap) (rs.set k { r with s := s }) := by
 have hn : n = rs.length := by
  rcases h.2 with ⟨e, _⟩ | ⟨_, _, _, e, _⟩
  ·cases e
  ·cases e; rfl
 subst hn
 have := (h.stored (k * 3 + 1) (.int .i64 s)).1
 rw [rcells_set1 rs k r hr s] at this
 unfold OwnR
 rw [List.length_set]
 exact this
theorem OwnR.frozen {w : World} {B g n cap : Nat} {rs : List RV} (h : OwnR w B (.slice (some ⟨g, 0, none⟩) n cap) rs) (j : Nat) : w.frozen? ⟨g, j, none⟩ = false := by
 rcases h.2 with ⟨e, _⟩ | ⟨g', cap', cur, e, hb, hg, _⟩
 ·cases e
 ·cases e
  simp [World.frozen?, hg]
theorem OwnR.cells {w : World} {B g n cap : Nat} {rs : List RV} (h : OwnR w B (.slice (some ⟨g, 0, none⟩) n cap) rs) {k : Nat} {r : RV} (hr : rs[k]? = some r) :
    w.cell? ⟨g, k * 3, none⟩ = some (.int .i64 r.k) ∧ w.cell? ⟨g, k * 3 + 1, none⟩ = some (.int .i64 r.s) ∧ w.cell? ⟨g, k * 3 + 2, none⟩ = some r.v := by
 obtain ⟨A, c, e, hs, hb⟩ := h.shape
 cases e
 have hk : k < rs.length := (List.getElem?_eq_some_iff.1 hr).1
 obtain ⟨b, off, e, -, hc⟩ := hs.at_ (by omega)
 cases e
 have := hc k r hr
 rwa [Nat.zero_add] at this
set_option maxRecDepth 100000 in
set_option maxHeartbeats 400000 in
theorem rclone_any (A : Option Addr) (n cap : Nat) (rs : List RV) (w : World) (h : Rws w A n cap rs) (hn : n ≤ 1000000) :
    Calls Tryz.prog 101 #[.slice A n cap] w fun e w' => ∃ v, e = .returned v ∧ OwnR w' w.heap.size v rs ∧ Keeps None w w' := by
 have hnil := fun w => Lib.run_eql_slice_nil (P := Tryz.prog) w 76 95 A n cap 0 0 Tryz.underlying76
 cases A with
 | none =>
  obtain ⟨rfl, rfl⟩ := h.nil rfl
  have e : rs = [] := List.eq_nil_of_length_eq_zero h.len
  subst e
  go_enter Tryz.func101, Tryz.ntmps101
  go_wp2
  go_ret
  exact ⟨_, rfl, OwnR.nil _ _, Keeps.refl _ _⟩
 | some a =>
  have hown : OwnR (w.alloc (.cells #[] 95)) w.heap.size (.slice (some ⟨w.heap.size, 0, none⟩) 0 0) [] := World.ownsRow_made w #[] 0 (Nat.le_refl _) (by unfold maxLen; omega) rfl
  obtain ⟨v', w', hr, ho, hk, _⟩ := run_append_recs hown (h.later ((Keeps.refl None w).alloc (.cells #[] 95))) (by simpa using hn) (by simp)
  rw [List.nil_append] at ho
  have k2 : Keeps None w w' := ((Keeps.refl None w).alloc _).trans hk (fun _ h => h) (fun i hi h => by simp [Value.ownBlock] at h; omega)
  go_enter Tryz.func101, Tryz.ntmps101
  go_wp2_with (at_builtin; refine wpList_append_run hr rfl rfl rfl rfl rfl ?_)
  go_ret
  exact ⟨_, rfl, ho, k2⟩
structure Copied (w w' : World) (v : Value) (rs : List RV) : Prop where
  o : OwnR w' w.heap.size v rs
  bd : Bds w' (fun b => w.heap.size ≤ b ∧ ¬ v.ownBlock = some b) rs
  k : Keeps None w w'
set_option maxRecDepth 100000 in
set_option maxHeartbeats 1600000 in
theorem jclone_any (A : Option Addr) (n cap : Nat) (rs : List RV) (P : Nat → Prop) (w : World) (h : Rws w A n cap rs) (hb : Bds w P rs) (hn : n ≤ 1000000) (hbl : ∀ r ∈ rs, r.b.length ≤ 140737488355328) :
    Calls Tryz.prog 78 #[.slice A n cap] w fun e w' => ∃ v rs', e = .returned v ∧ Copied w w' v rs' ∧ rs'.map RV.r = rs.map RV.r := by
 have H := Lib.hid h
 have HB := Lib.hid hb
 have HBL := Lib.hid hbl
 have HL := Lib.hid h.len
 have hle := h.le
 have hmx := h.max
 clear h hb hbl
 go_enter Tryz.func78, Tryz.ntmps78
 go_wp2_with fail
 refine (rclone_any A n cap rs w H.out hn).mono ?_
 rintro e w1 ⟨v1, rfl, o1, k1⟩
 obtain ⟨A1, c1, rfl, r1, in1⟩ := o1.shape
 rw [HL.out] at r1 o1 ⊢
 have l1 := r1.le
 have m1 := r1.max
 have O1 := Lib.hid o1
 have K1 := Lib.hid k1
 clear r1 in1 o1 k1
 go_wp2
 go_loopw [8] (fun iv wr => ∃ (i : Nat) (cs : List RV), i ≤ n ∧ iv = .int .i64 (i : Int) ∧ cs.length = i ∧ OwnR wr w.heap.size (.slice A1 n c1) (cs ++ rs.drop i) ∧ cs.map RV.r = (rs.take i).map RV.r ∧ Bds wr (fun b => w.heap.size ≤ b ∧ ¬ (Value.slice A1 n c1).ownBlock = some b) cs ∧ Keeps None w wr) (fun iv _ => n - (intOf iv).toNat)
 case atStart => exact ⟨0, [], Nat.zero_le _, rfl, rfl, by simpa using O1.out, rfl, Bds.nil _ _, K1.out⟩
 case round =>
  clear O1 K1
  obtain ⟨i, cs, hi, rfl, hcl, ho, hm, hbd, hk⟩ := hrel
  obtain ⟨wv, rfl⟩ : ∃ x, x = wr := ⟨_, rfl⟩
  have HO := Lib.hid ho
  have HM := Lib.hid hm
  have BD := Lib.hid hbd
  have HK := Lib.hid hk
  have HC := Lib.hid hcl
  by_cases hlt : i < n
  ·have hir : i < rs.length := by rw [HL.out]; exact hlt
   obtain ⟨r, hr0⟩ : ∃ r, rs[i] = r := ⟨_, rfl⟩
   have HR := Lib.hid hr0
   clear hr0
   have hdr : rs.drop i = r :: rs.drop (i + 1) := by rw [← HR.out]; exact List.drop_eq_getElem_cons hir
   have hget : (cs ++ rs.drop i)[i]? = some r := by rw [hdr, List.getElem?_append_right (by omega), hcl, Nat.sub_self]; rfl
   have hA1 : ∃ g, A1 = some ⟨g, 0, none⟩ := by
    obtain ⟨A, c, e, hs, hin⟩ := ho.shape
    cases e
    obtain ⟨b, off, e, -, -⟩ := hs.at_ (by rw [List.length_append, List.length_drop]; omega)
    obtain ⟨-, rfl⟩ := hin b off e
    exact ⟨b, e⟩
   obtain ⟨g, rfl⟩ := hA1
   obtain ⟨-, -, x2⟩ := ho.cells hget
   have f2 := ho.frozen (i * 3 + 2)
   have hmem : r ∈ rs := by rw [← HR.out]; exact List.getElem_mem hir
   have hbs := HB.out.bs r hmem
   have hbm := HBL.out r hmem
   obtain ⟨rk, rs0, rA, rc, rb⟩ := r
   dsimp only at hbs hbm
   replace x2 : wv.cell? ⟨g, i * 3 + 2, none⟩ = some (.slice rA rb.length rc) := x2
   have BSV := Lib.hid (hbs.keeps HK.out (fun _ _ _ _ _ h => h))
   have HG := Lib.hid hget
   have HD := Lib.hid hdr
   have hbl := hbs.le
   have hbx := hbs.max
   obtain ⟨bn, HBN⟩ : ∃ x, Hid (rb.length = x) := ⟨_, rfl⟩
   rw [HBN.out] at x2 BSV hbm hbl
   clear hget hdr hbs hmem ho hm hbd hk hcl
   go_wp2_with fail
   refine (clone_any rA bn rc rb wv BSV.out (by omega)).mono ?_
   rintro e w3 ⟨v3, rfl, o3, k3⟩
   obtain ⟨A3, c3, rfl, b3, in3⟩ := o3.shape
   have l3 := b3.le
   have m3 := b3.max
   have B3 := Lib.hid b3
   have I3 := Lib.hid in3
   have K3 := Lib.hid k3
   have O3 := Lib.hid (HO.out.later k3)
   have D3 := Lib.hid (BD.out.later k3)
   have KW := Lib.hid (HK.out.trans k3 (T := None) (fun _ h => h) (fun _ _ h => h))
   have gl : Hid (w.heap.size ≤ g ∧ g < wv.heap.size) := HO.out.block rfl
   have y2 := (O3.out.cells HG.out).2.2
   have g2 := O3.out.frozen (i * 3 + 2)
   have ST := Lib.hid (O3.out.store2 HG.out A3 c3 rb)
   have SE : Hid ((cs ++ rs.drop i).set i ⟨rk, rs0, A3, c3, rb⟩ = (cs ++ [⟨rk, rs0, A3, c3, rb⟩]) ++ rs.drop (i + 1)) := by
    show _ = _
    rw [HD.out, List.set_append_right _ _ (by rw [HC.out]; exact Nat.le_refl _), HC.out, Nat.sub_self, List.append_assoc]
    rfl
   dsimp only at ST
   rw [SE.out] at ST
   replace y2 : w3.cell? ⟨g, i * 3 + 2, none⟩ = some (.slice rA rb.length rc) := y2
   rw [HBN.out] at l3 ST y2 ⊢
   clear x2 f2 o3 k3 b3 in3
   go_wp2
   go_roundw
   case rel =>
    refine ⟨i + 1, cs ++ [⟨rk, rs0, A3, c3, rb⟩], hlt, by go_num, by rw [List.length_append, HC.out]; rfl, ST.out, ?_, ?_, KW.out.setCell _ _ (fun h => absurd h (by have := gl.out.1; show ¬ g < _; omega))⟩
    ·have e : rs.take (i + 1) = rs.take i ++ [⟨rk, rs0, rA, rc, rb⟩] := by rw [List.take_add_one, List.getElem?_eq_getElem hir, HR.out]; rfl
     rw [e, List.map_append, List.map_append, HM.out]
     rfl
    ·have ks := (Keeps.self g w3).put (i * 3 + 2) (.slice A3 bn c3)
     refine (D3.out.keeps ks (fun b hb _ e => hb.2 (by rw [e]; rfl))).append (Bds.one ((show Bs w3 A3 rb.length c3 rb from B3.out).keeps ks (fun b off h0 _ e hb => by have := (I3.out b off e).1; have := gl.out.2; have hb : b = g := hb; omega)) (fun b ⟨off, h0, e⟩ => ?_))
     have h1 := I3.out b off e
     have h2 := gl.out
     have h3 := HK.out.size
     refine ⟨⟨by omega, fun e => ?_⟩, Nat.lt_of_lt_of_le h1.2.1 ks.size⟩
     have e : g = b := by simpa [Value.ownBlock] using e
     omega
   case measure => simp [intOf]; omega
  ·obtain rfl : i = n := by omega
   have F1 : Hid (Copied w wv (.slice A1 i c1) cs ∧ cs.map RV.r = rs.map RV.r) := by
    have e : rs.drop i = [] := List.drop_eq_nil_of_le (by rw [HL.out]; exact Nat.le_refl _)
    have h1 := HO.out
    have h2 := HM.out
    rw [e, List.append_nil] at h1
    rw [List.take_of_length_le (by rw [HL.out]; exact Nat.le_refl _)] at h2
    exact ⟨⟨h1, BD.out, HK.out⟩, h2⟩
   clear ho hm hbd hk
   go_wp2
   go_ret
   exact ⟨_, cs, rfl, F1.out.1, F1.out.2⟩
open Go.RowKit
def numR : Nat → List Rec → List Rec
  | _, [] => []
  | i, r :: rs => { r with s := ((i + 1 : Nat) : Int) } :: numR (i + 1) rs
theorem numR_len : ∀ (rs : List Rec) (i : Nat), (numR i rs).length = rs.length
  | [], _ => rfl
  | r :: rs, i => by simp [numR, numR_len rs]
theorem numR_snoc : ∀ (rs : List Rec) (r : Rec) (i : Nat), numR i (rs ++ [r]) = numR i rs ++ [{ r with s := ((i + rs.length + 1 : Nat) : Int) }]
  | [], r, i => by simp [numR]
  | x :: rs, r, i => by
    simp only [List.cons_append, numR, numR_snoc rs r (i + 1), List.length_cons]
    rw [show i + 1 + rs.length + 1 = i + (rs.length + 1) + 1 by omega]
theorem Bds.set {w : World} {P : Nat → Prop} {rs : List RV} (h : Bds w P rs) {k : Nat} {r x : RV} (hr : rs[k]? = some r) (hA : x.A = r.A) (hc : x.c = r.c) (hb : x.b = r.b) : Bds w P (rs.set k x) := by
 have hm : r ∈ rs := List.mem_of_getElem? hr
 have key : ∀ y ∈ rs.set k x, y ∈ rs ∨ y = x := fun y hy => List.mem_or_eq_of_mem_set hy
 refine ⟨fun y hy => ?_, fun y hy b hb' => ?_⟩
 ·rcases key y hy with h1 | rfl
  ·exact h.bs y h1
  ·rw [hA, hc, hb]; exact h.bs r hm
 ·rcases key y hy with h1 | rfl
  ·exact h.p y h1 b hb'
  ·obtain ⟨off, h0, e⟩ := hb'
   exact h.p r hm b ⟨off, by rw [← hb]; exact h0, by rw [← hA]; exact e⟩
theorem Copied.keeps {w w' w'' : World} {v : Value} {rs : List RV} (h : Copied w w' v rs) (k : Keeps None w' w'') : Copied w w'' v rs := ⟨h.o.later k, h.bd.later k, h.k.trans k (fun _ h => h) (fun _ _ h => h)⟩
set_option maxRecDepth 100000 in
set_option maxHeartbeats 1600000 in
theorem jnumbered_any (A : Option Addr) (n cap : Nat) (rs : List RV) (P : Nat → Prop) (w : World) (h : Rws w A n cap rs) (hb : Bds w P rs) (hn : n ≤ 1000000) (hbl : ∀ r ∈ rs, r.b.length ≤ 140737488355328) :
    Calls Tryz.prog 84 #[.slice A n cap] w fun e w' => ∃ v rs', e = .returned v ∧ Copied w w' v rs' ∧ rs'.map RV.r = numR 0 (rs.map RV.r) := by
 have CL := Lib.hid (jclone_any A n cap rs P w h hb hn hbl)
 have HL := Lib.hid h.len
 clear h hb hbl
 go_enter Tryz.func84, Tryz.ntmps84
 go_wp2_with fail
 refine CL.out.mono ?_
 rintro e w1 ⟨v1, cs, rfl, cp, hm⟩
 have hcn : cs.length = n := by have := congrArg List.length hm; rw [List.length_map, List.length_map, HL.out] at this; exact this
 obtain ⟨A1, c1, rfl, r1, in1⟩ := cp.o.shape
 have l1 := r1.le
 have m1 := r1.max
 rw [hcn] at l1
 rw [hcn] at cp ⊢
 have CP := Lib.hid cp
 have HM := Lib.hid hm
 have HCN := Lib.hid hcn
 clear r1 in1 cp hm CL hcn
 go_wp2
 go_loopw [8] (fun iv wr => ∃ (i : Nat) (xs : List RV), i ≤ n ∧ iv = .int .i64 (i : Int) ∧ xs.length = n ∧ Copied w wr (.slice A1 n c1) xs ∧ xs.map RV.r = numR 0 ((cs.map RV.r).take i) ++ (cs.map RV.r).drop i) (fun iv _ => n - (intOf iv).toNat)
 case atStart => exact ⟨0, cs, Nat.zero_le _, rfl, HCN.out, CP.out, by simp [numR]⟩
 case round =>
  clear CP
  obtain ⟨i, xs, hi, rfl, hxl, hcp, hx⟩ := hrel
  obtain ⟨wv, rfl⟩ : ∃ x, x = wr := ⟨_, rfl⟩
  have HP := Lib.hid hcp
  have HX := Lib.hid hx
  have HXL := Lib.hid hxl
  by_cases hlt : i < n
  ·have hix : i < xs.length := by omega
   obtain ⟨r, hr0⟩ : ∃ r, xs[i] = r := ⟨_, rfl⟩
   have hget : xs[i]? = some r := by rw [List.getElem?_eq_getElem hix, hr0]
   have hA1 : ∃ g, A1 = some ⟨g, 0, none⟩ := by
    obtain ⟨A, c, e, hs, hin⟩ := hcp.o.shape
    cases e
    obtain ⟨b, off, e, -, -⟩ := hs.at_ (by omega)
    obtain ⟨-, rfl⟩ := hin b off e
    exact ⟨b, e⟩
   obtain ⟨g, rfl⟩ := hA1
   obtain ⟨-, x1, -⟩ := hcp.o.cells hget
   have f1 := hcp.o.frozen (i * 3 + 1)
   have HG := Lib.hid hget
   have ST := Lib.hid (hcp.o.store1 hget ((i : Int) + 1))
   have hgB := (hcp.o.block rfl).1
   have GB : Hid (w.heap.size ≤ g) := hgB
   have BD := Lib.hid (hcp.bd.keeps ((Keeps.self g wv).put (i * 3 + 1) (.int .i64 ((i : Int) + 1))) (fun b hb _ e => hb.2 (by rw [e]; rfl)))
   have KK := Lib.hid (hcp.k)
   clear hget hcp hx hxl hgB
   go_wp2
   go_roundw
   case rel =>
    refine ⟨i + 1, xs.set i { r with s := (i : Int) + 1 }, hlt, by go_num, by rw [List.length_set]; exact HXL.out, ⟨ST.out, BD.out.set HG.out rfl rfl rfl, KK.out.setCell _ _ (fun h => absurd h (by have := GB.out; show ¬ g < _; omega))⟩, ?_⟩
    have hcl : i < (cs.map RV.r).length := by rw [List.length_map, HCN.out]; exact hlt
    have hd : (cs.map RV.r).drop i = (cs.map RV.r)[i] :: (cs.map RV.r).drop (i + 1) := List.drop_eq_getElem_cons hcl
    have ht : (cs.map RV.r).take (i + 1) = (cs.map RV.r).take i ++ [(cs.map RV.r)[i]] := by rw [List.take_add_one, List.getElem?_eq_getElem hcl]; rfl
    have hl0 : (numR 0 ((cs.map RV.r).take i)).length = i := by rw [numR_len, List.length_take]; omega
    have hri : r.r = (cs.map RV.r)[i] := by
     have h1 : (xs.map RV.r)[i]? = some r.r := by rw [List.getElem?_map, HG.out]; rfl
     rw [HX.out, hd, List.getElem?_append_right (by rw [hl0]; exact Nat.le_refl _), hl0, Nat.sub_self] at h1
     exact (Option.some.inj h1).symm
    rw [List.map_set, HX.out, hd, List.set_append_right _ _ (by rw [hl0]; exact Nat.le_refl _), hl0, Nat.sub_self, List.set_cons_zero, ht, numR_snoc, List.append_assoc]
    congr 1
    rw [List.singleton_append]
    congr 1
    rw [← hri]
    have e : (0 + ((cs.map RV.r).take i).length + 1 : Nat) = i + 1 := by rw [List.length_take]; omega
    rw [e]
    rfl
   case measure => simp [intOf]; omega
  ·obtain rfl : i = n := by omega
   have F1 : Hid (xs.map RV.r = numR 0 (rs.map RV.r)) := by
    show _ = _
    rw [HX.out, List.drop_eq_nil_of_le (by rw [List.length_map, HCN.out]; exact Nat.le_refl _), List.append_nil, List.take_of_length_le (by rw [List.length_map, HCN.out]; exact Nat.le_refl _), HM.out]
   clear hcp hx hxl
   go_wp2
   go_ret
   exact ⟨_, xs, rfl, HP.out, F1.out⟩
set_option maxRecDepth 100000 in
theorem jall_any (B q : Nat) (X : JX) (s : FS) (j : JS) (w : World) (h : JAt w B q X s j) (hl : j.l.length ≤ 1000000) (hbl : ∀ r ∈ j.l, r.b.length ≤ 1000000) : Calls Tryz.prog 55 #[.pointer (some ⟨X.jb, 0, none⟩)] w fun e w' => ∃ v rs', e = .returned v ∧ Copied w w' v rs' ∧ rs'.map RV.r = j.l := by
 obtain ⟨A, c, hlv, hr, -⟩ := h.l.shape
 have hrl : X.rs.length = j.l.length := by rw [← h.recs, List.length_map]
 have CL := Lib.hid (jclone_any A X.rs.length c X.rs _ w hr h.bd (by omega) (fun r hr => Nat.le_trans (hbl r.r (by rw [← h.recs]; exact List.mem_map_of_mem hr)) (by decide)))
 have RC := Lib.hid h.recs
 have y3 := h.c.cellD 3 _ rfl
 rw [hlv] at y3
 have l1 := hr.le
 have m1 := hr.max
 obtain ⟨jb, hjb⟩ : ∃ x, X.jb = x := ⟨_, rfl⟩
 obtain ⟨n, hn⟩ : ∃ x, X.rs.length = x := ⟨_, rfl⟩
 rw [hjb] at y3 ⊢
 rw [hn] at y3 CL l1
 clear h hlv hr hrl hjb hn
 go_enter Tryz.func55, Tryz.ntmps55
 go_wp2_with fail
 refine CL.out.mono ?_
 rintro e w1 ⟨v1, cs, rfl, cp, hm⟩
 have CP := Lib.hid cp
 have HM := Lib.hid hm
 clear cp hm
 go_wp2
 go_ret
 exact ⟨_, cs, rfl, CP.out, HM.out.trans RC.out⟩
def JS.room (j : JS) : Int := if j.torn = true ∨ j.cur = -1 then 0 else 1024 - (j.used : Int)
set_option maxRecDepth 100000 in
theorem jroom_any (B q : Nat) (X : JX) (s : FS) (j : JS) (w : World) (h : JAt w B q X s j) (hu : j.used ≤ 1024) : Calls Tryz.prog 81 #[.pointer (some ⟨X.jb, 0, none⟩)] w (Same (.int .i64 j.room) w) := by
 have y7 := h.c.cellD 7 _ rfl
 have y5 := h.c.cellD 5 _ rfl
 have y6 := h.c.cellD 6 _ rfl
 have RM : Hid (j.room = if j.torn = true ∨ j.cur = -1 then 0 else 1024 - (j.used : Int)) := rfl
 obtain ⟨jl, je, jc, ju, jt, jr⟩ := j
 dsimp only at y7 y5 y6 RM hu
 clear h
 cases jt with
 | true =>
  have e : Hid ((⟨jl, je, jc, ju, true, jr⟩ : JS).room = 0) := RM.out.trans (if_pos (.inl rfl))
  rw [e.out]
  clear RM e
  go_enter Tryz.func81, Tryz.ntmps81
  go_wp2
  go_ret
  exact ⟨rfl, rfl⟩
 | false =>
  by_cases hc : jc = -1
  ·have e : Hid ((⟨jl, je, jc, ju, false, jr⟩ : JS).room = 0) := RM.out.trans (if_pos (.inr hc))
   rw [e.out]
   clear RM e
   subst hc
   go_enter Tryz.func81, Tryz.ntmps81
   go_wp2
   go_ret
   exact ⟨rfl, rfl⟩
  ·have e : Hid ((⟨jl, je, jc, ju, false, jr⟩ : JS).room = 1024 - (ju : Int)) := RM.out.trans (if_neg (fun h => h.elim (fun h => by cases h) hc))
   rw [e.out]
   have e1 : (jc == -1) = false := by simpa using hc
   clear RM e hc
   go_enter Tryz.func81, Tryz.ntmps81
   go_wp2
   go_ret
   exact ⟨rfl, rfl⟩
set_option maxRecDepth 100000 in
theorem jfailed_any (B q : Nat) (X : JX) (s : FS) (j : JS) (x : Int) (w : World) (h : JAt w B q X s j) : Calls Tryz.prog 82 #[.pointer (some ⟨X.jb, 0, none⟩), .int .i64 x] w fun e w' => e = .returned (.bool (x != 0)) ∧ JStay w w' B q X X s { j with err := x } := by
 have P8 := Lib.hid (h.put (j' := { j with err := x }) 8 (.int .i64 x) rfl rfl)
 have y8 := h.c.cellD 8 _ rfl
 have f8 := h.c.frozen 8
 clear h
 go_enter Tryz.func82, Tryz.ntmps82
 go_wp2
 go_ret
 exact ⟨rfl, P8.out⟩
open Go.RowKit
set_option maxRecDepth 100000 in
theorem sput_all (kind seq : Int) (A : Option Addr) (n cap : Nat) (zs : List Int) (w : World) (h : Bs w A n cap zs) :
    Calls Tryz.prog 80 #[.agg #[.int .i64 kind, .int .i64 seq, .slice A n cap]] w fun e w' => ∃ v, e = .returned v ∧ Own w' w.heap.size v (putL kind seq zs) ∧ Keeps None w w' := by
 by_cases hn : n ≤ 1000000
 ·exact sput_any kind seq A n cap zs w h hn
 have hl := h.len
 have hmax := h.max
 have hle := h.le
 have HP : Hid (putL kind seq zs = []) := if_neg (fun hf => by obtain ⟨f1, f2, f3, f4, f5⟩ := hf; omega)
 have d5 : decide (512 < (n : Int)) = true := decide_eq_true (by omega)
 have d5n : decide (512 < n) = true := decide_eq_true (by omega)
 clear h
 by_cases g1 : kind < 1
 ·have d1 : decide (kind < 1) = true := decide_eq_true g1
  exact tl40 _
 have d1 : decide (kind < 1) = false := decide_eq_false g1
 by_cases g2 : 250 < kind
 ·have d2 : decide (250 < kind) = true := decide_eq_true g2
  exact tl40 _
 have d2 : decide (250 < kind) = false := decide_eq_false g2
 by_cases g3 : seq < 0
 ·have d3 : decide (seq < 0) = true := decide_eq_true g3
  exact tl40 _
 have d3 : decide (seq < 0) = false := decide_eq_false g3
 by_cases g4 : 4294967295 < seq
 ·have d4 : decide (4294967295 < seq) = true := decide_eq_true g4
  exact tl40 _
 have d4 : decide (4294967295 < seq) = false := decide_eq_false g4
 exact tl40 _
def Rec.put (r : Rec) : List Int := putL r.k r.s r.b
theorem putL_le (k s : Int) (b : List Int) : (putL k s b).length ≤ 600 := by
 by_cases hf : fitsR k s b.length
 ·have h1 := putL_len k s b hf
  have h5 := hf.2.2.2.2
  have e : sizeZ b.length = 16 + ((b.length : Int) + 7) / 8 * 8 := if_neg (by omega)
  omega
 ·unfold putL; rw [if_neg hf]; exact Nat.zero_le _
def packF : List Int → List Rec → Option (List Int)
  | out, [] => some out
  | out, r :: rs => if r.k = 1 ∨ r.put.length = 0 ∨ 1008 < out.length + r.put.length then none else packF (out ++ r.put) rs
def PackTold (w : World) (r : Option (List Int)) (e : Ending) (w' : World) : Prop :=
  Keeps None w w' ∧ match r with
    | none => e = .returned (.tuple #[.slice none 0 0, .bool false])
    | some out => ∃ v, e = .returned (.tuple #[v, .bool true]) ∧ Own w' w.heap.size v out
set_option maxRecDepth 100000 in
set_option maxHeartbeats 1600000 in
theorem jpacked_any (A : Option Addr) (n cap : Nat) (rs : List RV) (P : Nat → Prop) (w : World) (h : Rws w A n cap rs) (hb : Bds w P rs) (hn : n ≤ 1000000) :
    Calls Tryz.prog 85 #[.slice A n cap] w (PackTold w (packF [] (rs.map RV.r))) := by
 have H := Lib.hid h
 have HB := Lib.hid hb
 have HL := Lib.hid h.len
 have hle := h.le
 have hmx := h.max
 clear h hb
 obtain ⟨res, HRES⟩ : ∃ x, Hid (packF [] (rs.map RV.r) = x) := ⟨_, rfl⟩
 rw [HRES.out]
 go_enter Tryz.func85, Tryz.ntmps85
 go_wp2
 go_loopw [4, 10] (fun ov iv wr => ∃ (i : Nat) (out : List Int), i ≤ n ∧ iv = .int .i64 (i : Int) ∧ out.length ≤ 1008 ∧ Own wr w.heap.size ov out ∧ packF out ((rs.map RV.r).drop i) = res ∧ Keeps None w wr) (fun _ iv _ => n - (intOf iv).toNat)
 case atStart => exact ⟨0, [], Nat.zero_le _, rfl, by decide, Own.nil _ _, HRES.out, Keeps.refl _ _⟩
 case round =>
  obtain ⟨i, out, hi, rfl, hol, ho, hp, hk⟩ := hrel
  obtain ⟨wv, rfl⟩ : ∃ x, x = wr := ⟨_, rfl⟩
  obtain ⟨A0, c0, rfl, b0, -⟩ := ho.shape
  have l0 := b0.le
  have m0 := b0.max
  have HO := Lib.hid ho
  have HP := Lib.hid hp
  have HK := Lib.hid hk
  obtain ⟨on, HON⟩ : ∃ x, Hid (out.length = x) := ⟨_, rfl⟩
  rw [HON.out] at l0 hol HO ⊢
  clear ho hp hk b0
  by_cases hlt : i < n
  ·have hir : i < rs.length := by rw [HL.out]; exact hlt
   obtain ⟨r, hr0⟩ : ∃ r, rs[i] = r := ⟨_, rfl⟩
   have hget : rs[i]? = some r := by rw [List.getElem?_eq_getElem hir, hr0]
   have hmem : r ∈ rs := List.mem_of_getElem? hget
   obtain ⟨gb, off, rfl, hgb, hc⟩ := H.out.at_ (by omega)
   obtain ⟨x0, x1, x2⟩ := hc i r hget
   rw [← HK.out.cell hgb (fun h => h)] at x0 x1 x2
   have hbs := HB.out.bs r hmem
   have hdr : (rs.map RV.r).drop i = r.r :: (rs.map RV.r).drop (i + 1) := by
    rw [List.drop_eq_getElem_cons (by rw [List.length_map]; exact hir), List.getElem_map, hr0]
   obtain ⟨rk, rs0, rA, rc, rb⟩ := r
   have PS : Hid (res = if rk = 1 ∨ (putL rk rs0 rb).length = 0 ∨ 1008 < out.length + (putL rk rs0 rb).length then none else packF (out ++ putL rk rs0 rb) ((rs.map RV.r).drop (i + 1))) := by
    show _ = _
    rw [← HP.out, hdr]
    rfl
   dsimp only [RV.v] at hbs x0 x1 x2
   have BSV := Lib.hid (hbs.keeps HK.out (fun _ _ _ _ _ h => h))
   have hbl := hbs.le
   have hbx := hbs.max
   have PUT := Lib.hid (fun n w (h : Bs w rA n rc rb) => sput_all rk rs0 rA n rc rb w h)
   have PL := putL_le rk rs0 rb
   obtain ⟨pl, HPL⟩ : ∃ x, Hid (putL rk rs0 rb = x) := ⟨_, rfl⟩
   rw [HPL.out] at PUT PL PS
   obtain ⟨bn, HBN⟩ : ∃ x, Hid (rb.length = x) := ⟨_, rfl⟩
   rw [HBN.out] at x2 BSV hbl
   clear hget hmem hc hbs hdr hr0 HP
   go_wp2_with fail
   refine (PUT.out _ _ (BSV.out.alloc _)).mono ?_
   rintro e w3 ⟨v3, rfl, o3, k3⟩
   obtain ⟨A3, c3, rfl, b3, -⟩ := o3.shape
   obtain ⟨pn, HPN⟩ : ∃ x, Hid (pl.length = x) := ⟨_, rfl⟩
   rw [HPN.out] at b3 PL ⊢
   have l3 := b3.le
   have m3 := b3.max
   have B3 := Lib.hid b3
   have N3 := Lib.hid (k3.blk (Blk.new wv [.int .i64 rk, .int .i64 rs0, .slice rA bn rc] 95) (fun h => h))
   have K3 := Lib.hid (((Keeps.refl None wv).alloc (.cells #[.int .i64 rk, .int .i64 rs0, .slice rA bn rc] 95)).trans k3 (T := None) (fun _ h => h) (fun _ _ h => h))
   have O3 := Lib.hid (HO.out.keeps K3.out (fun _ _ h => h))
   have KW := Lib.hid (HK.out.trans K3.out (T := None) (fun _ h => h) (fun _ _ h => h))
   have y0 := N3.out.cellD 0 _ rfl
   rw [HON.out, HPN.out] at PS
   clear o3 k3 b3
   by_cases q1 : rk = 1
   ·subst q1
    have e0 : Hid (res = none) := PS.out.trans (if_pos (.inl rfl))
    clear PS
    go_wp2
    go_ret2
    rw [e0.out]
    exact ⟨KW.out, rfl⟩
   have d1 : (rk == 1) = false := by simpa using q1
   by_cases q2 : pn = 0
   ·subst q2
    have e0 : Hid (res = none) := PS.out.trans (if_pos (.inr (.inl rfl)))
    clear PS
    go_wp2
    go_ret2
    rw [e0.out]
    exact ⟨KW.out, rfl⟩
   have d2 : ((pn : Int) == 0) = false := by simp; omega
   have d2n : (pn == 0) = false := by simp; omega
   by_cases q3 : 1008 < on + pn
   ·have d3 : decide (1008 - (on : Int) < (pn : Int)) = true := decide_eq_true (by omega)
    have e0 : Hid (res = none) := PS.out.trans (if_pos (.inr (.inr q3)))
    clear PS
    go_wp2
    go_ret2
    rw [e0.out]
    exact ⟨KW.out, rfl⟩
   have d3 : decide (1008 - (on : Int) < (pn : Int)) = false := decide_eq_false (by omega)
   have PS2 : Hid (packF (out ++ pl) ((rs.map RV.r).drop (i + 1)) = res) := (PS.out.trans (if_neg (fun h => by rcases h with h | h | h; exact q1 h; exact q2 h; exact q3 h))).symm
   clear PS
   go_wp2_with (at_builtin; refine Hid.out ?_)
   refine Lib.hid ?_
   refine wpList_append_bs (zs := out) (by rw [← HON.out] at O3; exact O3.out) B3.out (by rw [HON.out]; omega) KW.out.size (by rfl) (by rfl) (by rfl) (by rw [HON.out]; rfl) (by rfl) ?_
   intro v4 w4 o4 k4
   have O4 := Lib.hid o4
   have K4 := Lib.hid (KW.out.trans k4 (T := None) (fun _ h => h) (fun b hb e => absurd (by rw [HON.out] at e; exact e) (O3.out.notBelow hb)))
   clear o4 k4
   go_wp2
   go_roundw
   case rel => exact ⟨i + 1, out ++ pl, hlt, by go_num, by rw [List.length_append, HON.out, HPN.out]; omega, O4.out, PS2.out, K4.out⟩
   case measure => simp [intOf]; omega
  ·obtain rfl : i = n := by omega
   have e0 : Hid (res = some out) := by
    show _ = _
    rw [← HP.out, List.drop_eq_nil_of_le (by rw [List.length_map, HL.out]; exact Nat.le_refl _)]
    rfl
   clear HP
   go_wp2
   go_ret2
   rw [e0.out]
   exact ⟨HK.out, _, rfl, HO.out⟩
open Go.RowKit
theorem JAt.prog {w : World} {B q : Nat} {X : JX} {s : FS} {j : JS} (h : JAt w B q X s j) (a : Int) {A : Option Addr} {m c : Nat} {zs : List Int} (hb : Bs w A m c zs) (hst : 0 ≤ s.steps ∧ s.steps + m ≤ 1000000000000) (hA : ∀ b off, 0 < m → A = some ⟨b, off, none⟩ → ¬ X.S b) :
    Calls Tryz.prog 83 #[.agg #[.pointer (some ⟨q, 0, none⟩), .int .i64 0, .int .i64 2], .int .i64 a, .slice A m c] w fun e w' => e = .returned (.int .i64 (s.gprog 0 2 a zs).2) ∧ ∃ L', JTurn w w' B q X { X with L := L' } (s.gprog 0 2 a zs).1 j :=
  (gprogram_any B X.L s q 0 2 a A m c zs w h.f h.hq (by decide) hb hst (fun b off h0 e hS => hA b off h0 e (.inl (.inl hS)))).mono fun _ _ ⟨he, L', t⟩ => ⟨he, L', h.turn t⟩
theorem JAt.erase {w : World} {B q : Nat} {X : JX} {s : FS} {j : JS} (h : JAt w B q X s j) (k : Int) (hst : 0 ≤ s.steps ∧ s.steps ≤ 1000000000000) (her : ∀ i, 0 ≤ s.er.getD i 0 ∧ s.er.getD i 0 ≤ 1000000000000) :
    Calls Tryz.prog 106 #[.agg #[.pointer (some ⟨q, 0, none⟩), .int .i64 0, .int .i64 2], .int .i64 k] w fun e w' => e = .returned (.int .i64 (s.gerase 0 2 k).2) ∧ ∃ L', JTurn w w' B q X { X with L := L' } (s.gerase 0 2 k).1 j :=
  (gerase_any B X.L s q 0 2 k w h.f h.hq (by decide) hst her).mono fun _ _ ⟨he, L', t⟩ => ⟨he, L', h.turn t⟩
theorem tl133 (P : Prop) (h : P := by
 have hp := hp b ⟨off, h0, e⟩
 rcases hb with hb | hb
 ·exact hp.2.2 (.inr (.inr (.inl hb)))
 ·exact hp.2.2 (.inr (.inl hb))) : P := h
theorem tl134 (P : Prop) (h : P := by
 have hp := hp b hb
 refine ⟨⟨by omega, fun hO => hp.2.2 (.inl hO), fun e => hp.2.2 (.inr (.inl e)), fun e => ?_⟩, Nat.lt_of_lt_of_le hp.2.1 KK.size⟩
 rcases nd b e with h1 | h1
 ·exact hp.2.2 (.inr (.inr (.inl h1)))
 ·omega) : P := h
theorem tl132 (P : Prop) (h : P := by
 refine Bds.append ⟨fun x hx => (hw.bd.bs x hx).keeps KK (fun b off h0 _ e hb => ?_), fun x hx b hb => ?_⟩ (Bds.one (hb.keeps KK (fun b off h0 _ e hb => ?_)) fun b hb => ?_)
 ·have hp := (hw.bd.p x hx b ⟨off, h0, e⟩).1
  rcases hb with hb | hb
  ·exact hp.2.2.2 hb
  ·exact hp.2.2.1 hb
 ·exact tl115 _
 ·exact tl133 _
 ·exact tl134 _) : P := h
theorem tl135 (P : Prop) (h : P := by
 refine t.keeps.trans (k0.trans KK (T := fun b => X.lv.ownBlock = some b ∨ b = X.jb) (fun _ h => h.elim) (fun _ _ h => h)) (fun _ h => h) (fun b hb hS => ?_)
 have : X.S b := by
  rcases hS with hS | hS
  ·exact .inr (.inr (.inl hS))
  ·exact .inr (.inl hS)
 rcases t.o b this with h1 | h1
 ·exact h1
 ·omega) : P := h
theorem tl137 (P : Prop) (h : P := by
 rcases nd x hx with h1 | h1
 ·exact t.o x (.inr (.inr (.inl h1)))
 ·exact .inr (Nat.le_trans hA0 (Nat.le_trans k0.size h1))) : P := h
theorem tl138 (P : Prop) (h : P := by
 rcases List.mem_append.1 hx' with h1 | h1
 ·exact t.o x (.inr (.inr (.inr ⟨x', h1, hbx⟩)))
 ·obtain rfl := List.mem_singleton.1 h1
  exact .inr (hp x hbx).1) : P := h
theorem tl136 (P : Prop) (h : P := by
 rcases hx with hx | hx | hx | ⟨x', hx', hbx⟩
 ·exact t.o x (.inl hx)
 ·exact t.o x (.inr (.inl hx))
 ·exact tl137 _
 ·exact tl138 _) : P := h
theorem tl131 (P : Prop) (h : P := by
 have h := t.at_
 have hw := h.later k0
 have ks := (Keeps.self X.jb w4).put 3 v'
 have hA0 : wA.heap.size ≤ w0.heap.size := t.keeps.size
 have nd : ∀ b, v'.ownBlock = some b → X.lv.ownBlock = some b ∨ w.heap.size ≤ b := fun b hb => by
  exact tl113 _
 have KK : Keeps (fun b => X.lv.ownBlock = some b ∨ b = X.jb) w (w4.setCell ⟨X.jb, 3, none⟩ v') := k.trans ks (fun _ h => .inl h) (fun _ _ h => .inr h)
 have jlv : ¬ X.lv.ownBlock = some X.jb := fun e => (h.lo _ e).2 rfl
 refine ⟨⟨hw.f.keeps KK (fun b hO e => by
   rcases e with e | e
   ·exact (h.lo b e).1 hO
   ·exact h.jo (e ▸ hO)), h.hq, (k.blk hw.c jlv).set 3 v', o.keeps ks (fun b hb (e : b = X.jb) => by
   rcases nd b hb with h1 | h1
   ·exact (h.lo b h1).2 e
   ·have := hw.c.lt; omega), ?_, by simp [h.recs], h.jo, h.jB, fun b hb => ?_⟩, ?_, fun x hx => ?_, t.jb⟩
 ·exact tl132 _
 ·exact tl117 _
 ·exact tl135 _
 ·exact tl136 _) : P := h
theorem JTurn.push {wA w0 w w4 : World} {B q : Nat} {XA X : JX} {s : FS} {j : JS} {v' : Value} {r : RV} (t : JTurn wA w0 B q XA X s j) (hBA : B ≤ wA.heap.size) (k0 : Keeps None w0 w) (k : Keeps (fun k => X.lv.ownBlock = some k) w w4) (o : OwnR w4 B v' (X.rs ++ [r]))
    (hat : v'.ownBlock = X.lv.ownBlock ∨ ∃ n, v'.ownBlock = some n ∧ w.heap.size ≤ n) (hb : Bs w r.A r.b.length r.c r.b) (hp : ∀ b, r.at_ b → wA.heap.size ≤ b ∧ b < w.heap.size ∧ ¬ X.S b) :
    JTurn wA (w4.setCell ⟨X.jb, 3, none⟩ v') B q XA ⟨X.L, X.jb, v', X.rs ++ [r]⟩ s { j with l := j.l ++ [r.r] } := by
 exact tl131 _
def appF (s : FS) (j : JS) (kind : Int) (body : List Int) : FS × JS × Int :=
  if j.err ≠ 0 then (s, j, j.err)
  else if kind = 1 ∨ (putL kind ((j.l.length : Int) + 1) body).length = 0 then (s, j, 1)
  else if j.room < ((putL kind ((j.l.length : Int) + 1) body).length : Int) then (s, j, 14)
  else
    if (s.gprog 0 2 (j.cur * 1024 + j.used) (putL kind ((j.l.length : Int) + 1) body)).2 ≠ 0 then
      ((s.gprog 0 2 (j.cur * 1024 + j.used) (putL kind ((j.l.length : Int) + 1) body)).1, { j with err := (s.gprog 0 2 (j.cur * 1024 + j.used) (putL kind ((j.l.length : Int) + 1) body)).2 }, (s.gprog 0 2 (j.cur * 1024 + j.used) (putL kind ((j.l.length : Int) + 1) body)).2)
    else ((s.gprog 0 2 (j.cur * 1024 + j.used) (putL kind ((j.l.length : Int) + 1) body)).1, { j with err := 0, l := j.l ++ [⟨kind, (j.l.length : Int) + 1, body⟩], used := j.used + (putL kind ((j.l.length : Int) + 1) body).length }, 0)
structure JOk (j : JS) : Prop where
  ll : j.l.length ≤ 100000
  bl : ∀ r ∈ j.l, r.b.length ≤ 512
  used : j.used ≤ 1024
  cur : j.cur = -1 ∨ j.cur = 0 ∨ j.cur = 1
  epoch : j.epoch ≤ 4294967295
def JDone (w : World) (B q : Nat) (X : JX) (r : FS × JS × Int) (e : Ending) (w' : World) : Prop := e = .returned (.int .i64 r.2.2) ∧ ∃ X', JTurn w w' B q X X' r.1 r.2.1
theorem tl140 (P : Prop) (h : P := by
 have d0 : (j.err == 0) = false := by simpa using q0
 have d0n : (j.err != 0) = true := by simpa using q0
 have E0 : Hid (res = (s, j, j.err)) := APP.out.trans (if_pos q0)
 clear APP
 go_wp2
 go_ret
 exact ⟨by rw [E0.out]; rfl, ⟨L, jb, lv, rs⟩, by rw [E0.out]; exact TS.out⟩) : P := h
theorem tl141 (P : Prop) (h : P := by
 have d1 : (kind == 1) = true := by simpa using q1
 have E0 : Hid (res = (s, j, 1)) := APP2.out.trans (if_pos (.inl q1))
 clear APP2 q1
 go_wp2
 go_ret
 exact ⟨by rw [E0.out]; rfl, ⟨L, jb, lv, rs⟩, by rw [E0.out]; exact TS.out⟩) : P := h
theorem tl142 (P : Prop) (h : P := by
 have E0 : Hid (res = (s, j, 1)) := APP2.out.trans (if_pos (.inr q2))
 have d2 : ((pn : Int) == 0) = true := by simpa using q2
 have d2n : (pn == 0) = true := by simpa using q2
 clear APP2 q2 q1
 go_wp2
 go_ret
 exact ⟨by rw [E0.out]; rfl, ⟨L, jb, lv, rs⟩, by rw [E0.out]; exact TS.out⟩) : P := h
theorem tl143 (P : Prop) (h : P := by
 have d3 : decide (rm < (pn : Int)) = true := decide_eq_true q3
 have E0 : Hid (res = (s, j, 14)) := APP3.out.trans (if_pos q3)
 clear APP3
 go_wp2
 go_ret
 exact ⟨by rw [E0.out]; rfl, ⟨L, jb, lv, rs⟩, by rw [E0.out]; exact TS.out⟩) : P := h
theorem tl144 (P : Prop) (h : P := by
 have h1 := HRM.out
 have h2 := OK.out.cur
 unfold JS.room at h1
 split at h1
 ·omega
 ·rename_i h3
  have : j.cur ≠ -1 := fun e => h3 (.inr e)
  omega) : P := h
theorem tl146 (P : Prop) (h : P := by
 clear APP4
 go_wp2
 go_ret
 exact ⟨by rw [E0.out]; rfl, ⟨L6, jb, lv, rs⟩, by rw [E0.out, ← HJC.out, ← HJU.out]; exact TW.out⟩) : P := h
theorem tl145 (P : Prop) (h : P := by
 have d4 : (x1 != 0) = true := by simpa using q4
 have E0 := Lib.hid (APP4.out.trans (if_pos q4))
 have y8 := T7.out.at_.c.cellD 8 _ rfl
 dsimp only at y8
 exact tl146 _) : P := h
set_option maxRecDepth 100000 in
theorem tl139 (P : Prop) (h : P := by
 refine MixK.on (InS.mk ((mH.out _).2 ((HLV.out ▸ (HJ.out.later K3.out).c.cellD 3 _ rfl)))) ?_
 refine wpMix_nil ?_
 clear mk0 mn mH
 have J3 := Lib.hid (HJ.out.later K3.out)
 have PUT := Lib.hid (fun w (h : Bs w A2 n c2 body) => sput_all kind ((ll : Int) + 1) A2 n c2 body w h)
 obtain ⟨pl, HPL⟩ : ∃ x, Hid (putL kind ((ll : Int) + 1) body = x) := ⟨_, rfl⟩
 have PL : pl.length ≤ 600 := by rw [← HPL.out]; exact putL_le _ _ _
 obtain ⟨pn, HPN⟩ : ∃ x, Hid (pl.length = x) := ⟨_, rfl⟩
 rw [HPL.out] at PUT APP
 rw [HPN.out] at PL APP
 have n0 := N3.out.cellD 0 _ rfl
 have n1 := N3.out.cellD 1 _ rfl
 have n2 := N3.out.cellD 2 _ rfl
 go_wp2_with fail
 refine (PUT.out _ V3.out).mono ?_
 rintro e w5 ⟨v5, rfl, o5, k5⟩
 obtain ⟨A5, c5, rfl, b5, in5⟩ := o5.shape
 rw [HPN.out] at b5 ⊢
 have l5 := b5.le
 have m5 := b5.max
 have B5 := Lib.hid b5
 have I5 := Lib.hid in5
 have K5 := Lib.hid (K3.out.trans k5 (T := None) (fun _ h => h) (fun _ _ h => h))
 have J5 := Lib.hid (J3.out.later k5)
 have N5 := Lib.hid (k5.blk N3.out (fun h => h))
 have V5 := Lib.hid (V3.out.keeps k5 (fun _ _ _ _ _ h => h))
 have S35 := Lib.hid k5.size
 have K35 := Lib.hid K3.out.size
 have TS := Lib.hid (JTurn.still HJ.out K5.out)
 clear o5 k5 b5 in5 PUT J3 N3 V3 K3 n0 n1 n2
 have y8 := J5.out.c.cellD 8 _ rfl
 dsimp only at y8
 by_cases q0 : j.err ≠ 0
 ·exact tl140 _
 have q0e : j.err = 0 := Classical.byContradiction q0
 have APP2 := Lib.hid (APP.out.trans (if_neg q0))
 rw [q0e] at y8
 clear APP q0 q0e
 by_cases q1 : kind = 1
 ·exact tl141 _
 have d1 : (kind == 1) = false := by simpa using q1
 by_cases q2 : pn = 0
 ·exact tl142 _
 have d2 : ((pn : Int) == 0) = false := by simp; omega
 have d2n : (pn == 0) = false := by simp; omega
 have APP3 := Lib.hid (APP2.out.trans (if_neg (fun h => h.elim q1 q2)))
 clear APP2 q1
 have RM := Lib.hid (jroom_any B q _ s j w5 J5.out OK.out.used)
 obtain ⟨rm, HRM⟩ : ∃ x, Hid (j.room = x) := ⟨_, rfl⟩
 rw [HRM.out] at RM APP3
 go_wp2_with fail
 refine RM.out.mono ?_
 rintro e w' ⟨rfl, rfl⟩
 by_cases q3 : rm < (pn : Int)
 ·exact tl143 _
 have d3 : decide (rm < (pn : Int)) = false := decide_eq_false q3
 have APP4 := Lib.hid (APP3.out.trans (if_neg q3))
 clear APP3
 have hcur : 0 ≤ j.cur ∧ j.cur ≤ 1 := by
  exact tl144 _
 obtain ⟨hc0, hc1⟩ := hcur
 have hu := OK.out.used
 obtain ⟨jc, HJC⟩ : ∃ x, Hid (j.cur = x) := ⟨_, rfl⟩
 obtain ⟨ju, HJU⟩ : ∃ x, Hid (j.used = x) := ⟨_, rfl⟩
 rw [HJC.out] at hc0 hc1
 rw [HJU.out] at hu
 have r0 := J5.out.c.cellD 0 _ rfl
 have r1 := J5.out.c.cellD 1 _ rfl
 have r2 := J5.out.c.cellD 2 _ rfl
 have r5 := J5.out.c.cellD 5 _ rfl
 have r6 := J5.out.c.cellD 6 _ rfl
 dsimp only at r0 r1 r2 r5 r6
 rw [HJC.out] at r5 APP4
 rw [HJU.out] at r6 APP4
 have PRG := Lib.hid ((J5.out.later (Keeps.refl None w5).drew).prog (jc * 1024 + (ju : Int)) B5.out.drew (by obtain ⟨h1, h2⟩ := hst; omega) (fun b off h0 e hS => by have h1 := (I5.out b off e).1; have h2 := HJ.out.lt b hS; have h3 := K35.out; omega))
 obtain ⟨⟨s1, x1⟩, HG⟩ : ∃ x, Hid (s.gprog 0 2 (jc * 1024 + (ju : Int)) pl = x) := ⟨_, rfl⟩
 rw [HG.out] at PRG APP4
 dsimp only at PRG APP4
 have NX : Hid (∀ k, JX.S ⟨L, jb, lv, rs⟩ k → k < w.heap.size) := HJ.out.lt
 clear RM
 go_wp2
 obtain ⟨mpS, mph⟩ : ∃ S : World → Prop, ∀ w', S w' ↔ (w'.cell? ⟨jb, 0, none⟩ = some (.pointer (some ⟨q, 0, none⟩)) ∧ w'.cell? ⟨jb, 1, none⟩ = some (.int .i64 0) ∧ w'.cell? ⟨jb, 2, none⟩ = some (.int .i64 2) ∧ w'.cell? ⟨jb, 5, none⟩ = some (.int .i64 jc) ∧ w'.cell? ⟨jb, 6, none⟩ = some (.int .i64 (ju : Int))) := ⟨_, fun _ => Iff.rfl⟩
 have mpk0 : ∀ x : Memb mpS, x.at_.cell? ⟨jb, 0, none⟩ = some (.pointer (some ⟨q, 0, none⟩)) := fun x => ((mph _).1 x.is).1
 have mpk1 : ∀ x : Memb mpS, x.at_.cell? ⟨jb, 1, none⟩ = some (.int .i64 0) := fun x => ((mph _).1 x.is).2.1
 have mpk2 : ∀ x : Memb mpS, x.at_.cell? ⟨jb, 2, none⟩ = some (.int .i64 2) := fun x => ((mph _).1 x.is).2.2.1
 have mpk3 : ∀ x : Memb mpS, x.at_.cell? ⟨jb, 5, none⟩ = some (.int .i64 jc) := fun x => ((mph _).1 x.is).2.2.2.1
 have mpk4 : ∀ x : Memb mpS, x.at_.cell? ⟨jb, 6, none⟩ = some (.int .i64 (ju : Int)) := fun x => ((mph _).1 x.is).2.2.2.2
 have mpn : Nonempty (Memb mpS) := ⟨⟨(w5).drew, (mph _).2 ⟨r0, r1, r2, r5, r6⟩⟩⟩
 have mpH := Lib.hid mph
 clear mph
 refine wp_region_mix [16, 17] (InS mpS) (by kernel_rfl) (by kernel_rfl) (InS.mk ((mpH.out _).2 ⟨r0, r1, r2, r5, r6⟩)) ?_
 refine wpMix_seg 16 (by kernel_rfl) (by decide) ?_
 simp only [tds]
 repeat (go_big_quiet_step (fail))
 refine wpQuiet_nil ?_
 refine wpMix_eff (by kernel_rfl) ?_
 go_wp2_with fail
 refine PRG.out.mono ?_
 rintro e w6 ⟨rfl, L6, t6⟩
 have T6 := Lib.hid (JTurn.from (Keeps.refl None w5).drew t6)
 clear t6
 go_wp2
 refine MixK.on (InS.mk ((mpH.out _).2 (⟨T6.out.at_.c.cellD 0 _ rfl, T6.out.at_.c.cellD 1 _ rfl, T6.out.at_.c.cellD 2 _ rfl, HJC.out ▸ T6.out.at_.c.cellD 5 _ rfl, HJU.out ▸ T6.out.at_.c.cellD 6 _ rfl⟩))) ?_
 refine wpMix_eff (by kernel_rfl) ?_
 go_wp2_with fail
 refine (jfailed_any B q _ s1 j x1 w6 T6.out.at_).mono ?_
 rintro e w7 ⟨rfl, p7⟩
 have T7 := Lib.hid (T6.out.trans p7.t)
 clear p7 T6
 go_wp2
 refine MixK.on (InS.mk ((mpH.out _).2 (⟨T7.out.at_.c.cellD 0 _ rfl, T7.out.at_.c.cellD 1 _ rfl, T7.out.at_.c.cellD 2 _ rfl, HJC.out ▸ T7.out.at_.c.cellD 5 _ rfl, HJU.out ▸ T7.out.at_.c.cellD 6 _ rfl⟩))) ?_
 refine wpMix_seg 1 (by kernel_rfl) (by decide) ?_
 simp only [tds]
 repeat (go_big_quiet_step (fail))
 refine wpQuiet_nil ?_
 refine wpMix_nil ?_
 clear mpk0 mpk1 mpk2 mpk3 mpk4 mpn mpH
 clear PRG r0 r1 r2 r5 r6 y8
 have TW := Lib.hid (TS.out.trans T7.out)
 by_cases q4 : x1 ≠ 0
 ·exact tl145 _
 obtain rfl : x1 = 0 := Classical.byContradiction q4
 have E0 := Lib.hid (APP4.out.trans (if_neg q4))
 clear APP4 q4
 have N7 := Lib.hid (T7.out.keeps.blk N5.out (fun hS => by have h1 := NX.out _ hS; have h2 := NBL.out; omega))
 have V7 := Lib.hid (V5.out.keeps T7.out.keeps (fun b off h0 _ e hS => by have h1 := NX.out _ hS; have h2 := (PB3.out b off e).1; omega))
 have NB7 : Hid (nb < w5.heap.size) := N5.out.lt
 have LVN : Hid (∀ b, lv.ownBlock = some b → b < w.heap.size) := fun b e => HJ.out.lt b (.inr (.inr (.inl e)))
 have y3 := T7.out.at_.c.cellD 3 _ rfl
 dsimp only at y3
 rw [HLV.out] at y3
 go_wp2
 obtain ⟨mmS, mmh⟩ : ∃ S : World → Prop, ∀ w', S w' ↔ (w'.cell? ⟨jb, 3, none⟩ = some (.slice A1 ll c1) ∧ w'.cell? ⟨nb, 0, none⟩ = some (.int .i64 kind) ∧ w'.cell? ⟨nb, 1, none⟩ = some (.int .i64 ((ll : Int) + 1)) ∧ w'.cell? ⟨nb, 2, none⟩ = some (.slice A2 n c2)) := ⟨_, fun _ => Iff.rfl⟩
 have mmk0 : ∀ x : Memb mmS, x.at_.cell? ⟨jb, 3, none⟩ = some (.slice A1 ll c1) := fun x => ((mmh _).1 x.is).1
 have mmk1 : ∀ x : Memb mmS, x.at_.cell? ⟨nb, 0, none⟩ = some (.int .i64 kind) := fun x => ((mmh _).1 x.is).2.1
 have mmk2 : ∀ x : Memb mmS, x.at_.cell? ⟨nb, 1, none⟩ = some (.int .i64 ((ll : Int) + 1)) := fun x => ((mmh _).1 x.is).2.2.1
 have mmk3 : ∀ x : Memb mmS, x.at_.cell? ⟨nb, 2, none⟩ = some (.slice A2 n c2) := fun x => ((mmh _).1 x.is).2.2.2
 have mmn : Nonempty (Memb mmS) := ⟨⟨(w7).drew, (mmh _).2 ⟨y3, N7.out.cellD 0 _ rfl, N7.out.cellD 1 _ rfl, N7.out.cellD 2 _ rfl⟩⟩⟩
 have mmH := Lib.hid mmh
 clear mmh
 refine wp_region_mix [6, 7, 10] (InS mmS) (by kernel_rfl) (by kernel_rfl) (InS.mk ((mmH.out _).2 ⟨y3, N7.out.cellD 0 _ rfl, N7.out.cellD 1 _ rfl, N7.out.cellD 2 _ rfl⟩)) ?_
 refine wpMix_seg 6 (by kernel_rfl) (by decide) ?_
 simp only [tds]
 repeat (go_big_quiet_step (fail))
 refine wpQuiet_nil ?_
 refine wpMix_eff (by kernel_rfl) ?_
 go_wp2
 first | (refine Exists.elim (⟨_, rfl⟩ : ∃ x, (w7.alloc (.cells #[.int .i64 kind, .int .i64 ((ll : Int) + 1), .slice A2 n c2] 95)).drew = x) fun w8 hw8 => ?_; rw [hw8]) | (refine Exists.elim (⟨_, rfl⟩ : ∃ x, w7.drew.alloc (.cells #[.int .i64 kind, .int .i64 ((ll : Int) + 1), .slice A2 n c2] 95) = x) fun w8 hw8 => ?_; rw [hw8])
 have K8 : Hid (Keeps None w7 w8) := by show Keeps _ _ _; rw [← hw8]; first | exact ((Keeps.refl None w7).alloc _).drew | exact (Keeps.refl None w7).drew.alloc _
 have N8 : Hid (Blk w8 w7.heap.size [.int .i64 kind, .int .i64 ((ll : Int) + 1), .slice A2 n c2] 95) := by show Blk _ _ _ _; rw [← hw8]; first | exact (Blk.new _ [_, _, _] _).drew | exact Blk.new w7.drew [_, _, _] _
 have M8 := Lib.hid (K8.out.blk N7.out (fun h => h))
 have J8 := Lib.hid (T7.out.at_.later K8.out)
 have x3 := J8.out.c.cellD 3 _ rfl
 try dsimp only at x3
 rw [HLV.out] at x3
 clear hw8
 refine MixK.on (InS.mk ((mmH.out _).2 (⟨x3, M8.out.cellD 0 _ rfl, M8.out.cellD 1 _ rfl, M8.out.cellD 2 _ rfl⟩))) ?_
 refine wpMix_eff (by kernel_rfl) ?_
 go_wp2_with (at_builtin; refine Hid.out ?_)
 refine Lib.hid ?_
 refine wpList_append_recs (B := B) (rs := rs) (ns := [⟨kind, (ll : Int) + 1, A2, c2, body⟩]) (HLV.out ▸ J8.out.l) (Rws.one _ (by show Blk _ _ [_, _, .slice A2 body.length c2] _; rw [HL.out]; exact N8.out)) (by rw [RLL.out]; omega) (Nat.le_of_lt (Nat.lt_of_le_of_lt J8.out.jB J8.out.c.lt)) rfl rfl rfl rfl rfl ?_
 intro v9 w9 o9 k9 hat9
 rw [← HLV.out] at k9 hat9
 obtain ⟨A9, c9, hv9, r9, -⟩ := o9.shape
 have m9 := r9.max
 have l9 := r9.le
 have n9e : (rs ++ [(⟨kind, (ll : Int) + 1, A2, c2, body⟩ : RV)]).length = ll + 1 := by rw [List.length_append, RLL.out]; rfl
 rw [n9e] at hv9 l9
 subst hv9
 have PU := Lib.hid (TW.out.push HBA.out K8.out k9 o9 (hat9.imp id (fun h => ⟨_, h, Nat.le_refl _⟩)) ((show Bs w7 A2 body.length c2 body from by rw [HL.out]; exact V7.out).keeps K8.out (fun _ _ _ _ _ h => h)) (fun b ⟨o, h0, e⟩ => ⟨(PB3.out b o e).1, by have h1 := (PB3.out b o e).2; have h2 := S35.out; have h3 := T7.out.keeps.size; have h4 := K8.out.size; omega, fun hS => by have h1 := (PB3.out b o e); have h2 := S35.out; rcases T7.out.o b hS with h3 | h3; exact absurd (NX.out b h3) (by omega); omega⟩))
 have Y9 := Lib.hid (k9.blk J8.out.c (fun e => (J8.out.lo _ e).2 rfl))
 have M9 := Lib.hid (k9.blk M8.out (fun e => by have h1 := LVN.out _ e; have h2 := NBL.out; omega))
 have x3 := Y9.out.cellD 3 _ rfl
 have g3 := Y9.out.frozen 3
 have g6 := Y9.out.frozen 6
 have x6 := Y9.out.cellD 6 _ rfl
 try dsimp only at x3 x6
 rw [HLV.out] at x3
 rw [HJU.out] at x6
 clear o9 k9 hat9 r9 n9e
 go_wp2
 refine MixK.on (InS.mk ((mmH.out _).2 (⟨x3, M9.out.cellD 0 _ rfl, M9.out.cellD 1 _ rfl, M9.out.cellD 2 _ rfl⟩))) ?_
 refine wpMix_seg 2 (by kernel_rfl) (by decide) ?_
 simp only [tds]
 repeat (go_big_quiet_step (fail))
 refine wpQuiet_nil ?_
 refine wpMix_eff (by kernel_rfl) ?_
 go_wp2
 refine MixK.last (by kernel_rfl) ?_
 refine wpMix_nil ?_
 clear mmk0 mmk1 mmk2 mmk3 mmn mmH
 have P6 := Lib.hid (PU.out.at_.put (j' := { j with err := 0, l := j.l ++ [⟨kind, (ll : Int) + 1, body⟩], used := ju + pn }) 6 (.int .i64 ((ju + pn : Nat) : Int)) rfl rfl)
 try dsimp only at P6
 have e6 : ((ju + pn : Nat) : Int) = (ju : Int) + (pn : Int) := by omega
 rw [e6] at P6
 clear e6
 go_wp2
 go_ret
 exact ⟨by rw [E0.out]; rfl, ⟨L6, jb, .slice A9 (ll + 1) c9, rs ++ [⟨kind, (ll : Int) + 1, A2, c2, body⟩]⟩, by rw [E0.out, ← HJC.out]; exact PU.out.trans P6.out.t⟩) : P := h
set_option maxRecDepth 100000 in
set_option maxHeartbeats 3200000 in
theorem jappend_any (B q : Nat) (X : JX) (s : FS) (j : JS) (kind : Int) (A : Option Addr) (n cap : Nat) (body : List Int) (w : World) (h : JAt w B q X s j) (ok : JOk j) (hb : Bs w A n cap body) (hn : n ≤ 140737488355328) (hst : 0 ≤ s.steps ∧ s.steps ≤ 1000000000) :
    Calls Tryz.prog 60 #[.pointer (some ⟨X.jb, 0, none⟩), .int .i64 kind, .slice A n cap] w (JDone w B q X (appF s j kind body)) := by
 obtain ⟨L, jb, lv, rs⟩ := X
 dsimp only at h ⊢
 have OK := Lib.hid ok
 have HL := Lib.hid hb.len
 have HB := Lib.hid hb
 obtain ⟨A1, c1, hlv, r1, -⟩ := h.l.shape
 dsimp only at hlv r1
 have l1 := r1.le
 have m1 := r1.max
 have hrl : rs.length = j.l.length := by rw [← h.recs, List.length_map]
 obtain ⟨ll, HLL⟩ : ∃ x, Hid (j.l.length = x) := ⟨_, rfl⟩
 rw [hrl, HLL.out] at hlv l1
 have RLL : Hid (rs.length = ll) := hrl.trans HLL.out
 have HLV := Lib.hid hlv
 have hll : ll ≤ 100000 := by have := ok.ll; rw [HLL.out] at this; exact this
 have y3 := h.c.cellD 3 _ rfl
 dsimp only at y3
 rw [HLV.out] at y3
 have HJ := Lib.hid h
 have HBA : Hid (B ≤ w.heap.size) := Nat.le_of_lt (Nat.lt_of_le_of_lt h.jB h.c.lt)
 have APP : Hid (appF s j kind body = if j.err ≠ 0 then (s, j, j.err)
 else if kind = 1 ∨ (putL kind ((ll : Int) + 1) body).length = 0 then (s, j, 1)
 else if j.room < ((putL kind ((ll : Int) + 1) body).length : Int) then (s, j, 14)
 else
  if (s.gprog 0 2 (j.cur * 1024 + j.used) (putL kind ((ll : Int) + 1) body)).2 ≠ 0 then
   ((s.gprog 0 2 (j.cur * 1024 + j.used) (putL kind ((ll : Int) + 1) body)).1, { j with err := (s.gprog 0 2 (j.cur * 1024 + j.used) (putL kind ((ll : Int) + 1) body)).2 }, (s.gprog 0 2 (j.cur * 1024 + j.used) (putL kind ((ll : Int) + 1) body)).2)
  else ((s.gprog 0 2 (j.cur * 1024 + j.used) (putL kind ((ll : Int) + 1) body)).1, { j with err := 0, l := j.l ++ [⟨kind, (ll : Int) + 1, body⟩], used := j.used + (putL kind ((ll : Int) + 1) body).length }, 0)) := by
  show _ = _
  rw [← HLL.out]
  rfl
 obtain ⟨res, HRES⟩ : ∃ x, Hid (appF s j kind body = x) := ⟨_, rfl⟩
 rw [HRES.out] at APP ⊢
 clear h hlv r1 hb hrl HRES ok
 go_enter Tryz.func60, Tryz.ntmps60
 go_wp2
 obtain ⟨mS, mh⟩ : ∃ S : World → Prop, ∀ w', S w' ↔ (w'.cell? ⟨jb, 3, none⟩ = some (.slice A1 ll c1)) := ⟨_, fun _ => Iff.rfl⟩
 have mk0 : ∀ x : Memb mS, x.at_.cell? ⟨jb, 3, none⟩ = some (.slice A1 ll c1) := fun x => ((mh _).1 x.is)
 have mn : Nonempty (Memb mS) := ⟨⟨(w).drew, (mh _).2 (y3)⟩⟩
 have mH := Lib.hid mh
 clear mh
 refine wp_region_mix_swap [8, 10, 11] (InS mS) 0 10 11 8 10 (by kernel_rfl) (by kernel_rfl) (InS.mk ((mH.out _).2 (y3))) ?_ ?_
 ·
  refine wpMix_seg 8 (by kernel_rfl) (by decide) ?_
  simp only [tds, Nat.reduceSub]
  repeat (go_big_quiet_step (fail))
  refine wpQuiet_nil ?_
  refine wpMix_eff (by kernel_rfl) ?_
  go_wp2_with fail
  refine (clone_any A n cap body _ HB.out.drew hn).mono ?_
  rintro e w2 ⟨v2, rfl, o2, k2⟩
  obtain ⟨A2, c2, rfl, b2, in2⟩ := o2.shape
  rw [HL.out] at b2 o2 ⊢
  have K2 := Lib.hid ((Keeps.refl None w).drew.trans k2 (T := None) (fun _ h => h) (fun _ _ h => h))
  have B2 := Lib.hid b2
  have I2 := Lib.hid in2
  clear o2 k2 b2 in2
  go_wp2
  refine MixK.on (InS.mk ((mH.out _).2 ((HLV.out ▸ (HJ.out.later K2.out).c.cellD 3 _ rfl)))) ?_
  refine wpMix_seg 1 (by kernel_rfl) (by decide) ?_
  simp only [tds, Nat.reduceSub]
  repeat (go_big_quiet_step (fail))
  refine wpQuiet_nil ?_
  refine wpMix_eff (by kernel_rfl) ?_
  go_wp2
  refine MixK.on (InS.mk ((mH.out _).2 ((HLV.out ▸ (HJ.out.later (K2.out.alloc _)).c.cellD 3 _ rfl)))) ?_
  refine wpMix_eff (by kernel_rfl) ?_
  go_wp2
  refine Exists.elim (⟨_, rfl⟩ : ∃ x, w2.alloc (.cells #[.int .i64 kind, .int .i64 ((ll : Int) + 1), .slice A2 n c2] 95) = x) fun w3 hw3 => ?_
  refine Exists.elim (⟨_, rfl⟩ : ∃ x, w2.heap.size = x) fun nb hnb => ?_
  rw [hw3, hnb]
  have K3 : Hid (Keeps None w w3) := by show Keeps _ _ _; rw [← hw3]; exact K2.out.alloc _
  have N3 : Hid (Blk w3 nb [.int .i64 kind, .int .i64 ((ll : Int) + 1), .slice A2 n c2] 95) := by show Blk _ _ _ _; rw [← hw3, ← hnb]; exact Blk.new _ [_, _, _] _
  have V3 : Hid (Bs w3 A2 n c2 body) := by show Bs _ _ _ _ _; rw [← hw3]; exact B2.out.alloc _
  have PB3 : Hid (∀ b off, A2 = some ⟨b, off, none⟩ → w.heap.size ≤ b ∧ b < w3.heap.size) := fun b off e => by have h1 := I2.out b off e; have h2 : w2.heap.size ≤ w3.heap.size := (by rw [← hw3]; simp); exact ⟨h1.1, by omega⟩
  have NBL : Hid (w.heap.size ≤ nb) := by show _ ≤ _; rw [← hnb]; exact K2.out.size
  clear hw3 hnb K2 B2 I2
  exact tl139 _
 ·
  try dsimp only
  try simp only [tds, Nat.reduceSub]
  refine wpMix_nil ?_
  try dsimp only
  try simp only [tds, Nat.reduceSub]
  refine wpMix_eff (by kernel_rfl) ?_
  go_wp2
  refine Exists.elim (⟨_, rfl⟩ : ∃ x, (w.alloc (.cells #[.int .i64 0, .int .i64 0, .slice none 0 0] 95)).drew = x) fun wy hwy => ?_
  refine Exists.elim (⟨_, rfl⟩ : ∃ x, w.heap.size = x) fun nb hnb => ?_
  rw [hwy, hnb]
  have NBL : Hid (w.heap.size ≤ nb) := by show _ ≤ _; rw [← hnb]; exact Nat.le_refl _
  have KY : Hid (Keeps None w wy) := by show Keeps _ _ _; rw [← hwy]; exact ((Keeps.refl None w).alloc _).drew
  have NY : Hid (Blk wy nb [.int .i64 0, .int .i64 0, .slice none 0 0] 95) := by show Blk _ _ _ _; rw [← hwy, ← hnb]; exact (Blk.new _ [_, _, _] _).drew
  refine MixK.on (InS.mk ((mH.out _).2 ((HLV.out ▸ (HJ.out.later KY.out).c.cellD 3 _ rfl)))) ?_
  refine wpMix_nil ?_
  try dsimp only
  try simp only [tds, Nat.reduceSub]
  refine wpMix_seg 8 (by kernel_rfl) (by decide) ?_
  simp only [tds, Nat.reduceSub]
  repeat (go_big_quiet_step (fail))
  refine wpQuiet_nil ?_
  refine wpMix_eff (by kernel_rfl) ?_
  go_wp2_with fail
  refine (clone_any A n cap body _ (HB.out.keeps KY.out (fun _ _ _ _ _ h => h)) hn).mono ?_
  rintro e w2 ⟨v2, rfl, o2, k2⟩
  obtain ⟨A2, c2, rfl, b2, in2⟩ := o2.shape
  rw [HL.out] at b2 o2 ⊢
  have K2 := Lib.hid (KY.out.trans k2 (T := None) (fun _ h => h) (fun _ _ h => h))
  have N2 := Lib.hid (k2.blk NY.out (fun h => h))
  have B2 := Lib.hid b2
  have I2 := Lib.hid in2
  have nq0 := N2.out.cellD 0 _ rfl
  have nq1 := N2.out.cellD 1 _ rfl
  have nq2 := N2.out.cellD 2 _ rfl
  have nf0 := N2.out.frozen 0
  have nf1 := N2.out.frozen 1
  have nf2 := N2.out.frozen 2
  clear o2 k2 b2 in2
  go_wp2
  refine MixK.on (InS.mk ((mH.out _).2 ((HLV.out ▸ (HJ.out.later K2.out).c.cellD 3 _ rfl)))) ?_
  refine wpMix_seg 1 (by kernel_rfl) (by decide) ?_
  simp only [tds, Nat.reduceSub]
  repeat (go_big_quiet_step (fail))
  refine wpQuiet_nil ?_
  refine wpMix_nil ?_
  try dsimp only
  try simp only [tds, Nat.reduceSub]
  refine wpMix_eff (by kernel_rfl) ?_
  go_wp2
  refine Exists.elim (⟨_, rfl⟩ : ∃ x, ((w2.setCell ⟨nb, 0, none⟩ (.int .i64 kind)).setCell ⟨nb, 1, none⟩ (.int .i64 ((ll : Int) + 1))).setCell ⟨nb, 2, none⟩ (.slice A2 n c2) = x) fun w3 hw3 => ?_
  rw [hw3]
  have KS : Hid (Keeps (fun i => i = nb) w2 w3) := by show Keeps _ _ _; rw [← hw3]; exact (((Keeps.refl (fun i => i = nb) w2).put 0 _).put 1 _).put 2 _
  have K3 : Hid (Keeps None w w3) := by show Keeps _ _ _; exact K2.out.trans KS.out (fun _ h => h) (fun i hi e => by have h1 := NBL.out; have e : i = nb := e; omega)
  have N3 : Hid (Blk w3 nb [.int .i64 kind, .int .i64 ((ll : Int) + 1), .slice A2 n c2] 95) := by show Blk _ _ _ _; rw [← hw3]; exact ((N2.out.set 0 _).set 1 _).set 2 _
  have V3 : Hid (Bs w3 A2 n c2 body) := B2.out.keeps KS.out (fun b off _ _ e hb => by have h1 := (I2.out b off e).1; have h2 := NY.out.lt; have hb : b = nb := hb; omega)
  have PB3 : Hid (∀ b off, A2 = some ⟨b, off, none⟩ → w.heap.size ≤ b ∧ b < w3.heap.size) := fun b off e => by have h1 := I2.out b off e; have h2 := KS.out.size; have h3 := KY.out.size; exact ⟨by omega, by omega⟩
  clear hw3 hnb hwy K2 B2 I2 KS N2 NY KY nq0 nq1 nq2 nf0 nf1 nf2
  exact tl139 _
open Go.RowKit
structure Room (s : FS) (m : Nat) : Prop where
  st : 0 ≤ s.steps ∧ s.steps + m ≤ 1000000000000
  er : ∀ i, 0 ≤ s.er.getD i 0 ∧ s.er.getD i 0 + m ≤ 1000000000000
theorem Room.less {s : FS} {m k : Nat} (h : Room s m) (hk : k ≤ m) : Room s k :=
  ⟨by have := h.st; omega, fun i => by have := h.er i; omega⟩
theorem progW_more : ∀ (k : Nat) (s : FS) (p : Nat) (ws : List Int), (progW k s p ws).1.er = s.er ∧ s.steps ≤ (progW k s p ws).1.steps ∧ (progW k s p ws).1.steps ≤ s.steps + k
  | 0, s, p, ws => ⟨rfl, Int.le_refl _, by show s.steps ≤ s.steps + ((0 : Nat) : Int); omega⟩
  | k + 1, s, p, ws => by
    unfold progW
    split
    · exact ⟨s.stepped_er, by show s.steps ≤ s.stepped.steps; rw [s.stepped_steps]; omega, by show s.stepped.steps ≤ _; rw [s.stepped_steps]; omega⟩
    · have := progW_more k { s.stepped with b := splice s.b p (ws.take 8) } (p + 8) (ws.drop 8)
      have h1 : ({ s.stepped with b := splice s.b p (ws.take 8) } : FS).er = s.er := s.stepped_er
      have h2 : ({ s.stepped with b := splice s.b p (ws.take 8) } : FS).steps = s.steps + 1 := s.stepped_steps
      rw [h1, h2] at this
      exact ⟨this.1, by omega, by omega⟩
theorem prog_more (s : FS) (a : Int) (zs : List Int) : (s.progF a zs).1.er = s.er ∧ s.steps ≤ (s.progF a zs).1.steps ∧ (s.progF a zs).1.steps ≤ s.steps + zs.length := by
 unfold FS.progF
 split
 ·exact ⟨rfl, by dsimp only; omega, by dsimp only; omega⟩
 ·split
  ·exact ⟨rfl, by dsimp only; omega, by dsimp only; omega⟩
  ·split
   ·exact ⟨rfl, by dsimp only; omega, by dsimp only; omega⟩
   ·split
    ·exact ⟨rfl, by dsimp only; omega, by dsimp only; omega⟩
    ·have := progW_more (zs.length / 8) s a.toNat zs
     exact ⟨this.1, this.2.1, by omega⟩
theorem gprog_more (s : FS) (f c : Nat) (a : Int) (zs : List Int) : (s.gprog f c a zs).1.er = s.er ∧ s.steps ≤ (s.gprog f c a zs).1.steps ∧ (s.gprog f c a zs).1.steps ≤ s.steps + zs.length := by
 unfold FS.gprog
 split
 ·exact ⟨rfl, by dsimp only; omega, by dsimp only; omega⟩
 ·split
  ·exact prog_more s _ zs
  ·exact ⟨rfl, by dsimp only; omega, by dsimp only; omega⟩
theorem set_more (l : List Int) (k i : Nat) : l.getD i 0 ≤ (l.set k (l.getD k 0 + 1)).getD i 0 ∧ (l.set k (l.getD k 0 + 1)).getD i 0 ≤ l.getD i 0 + 1 := by
 by_cases e : i = k
 ·subst e
  by_cases hl : i < l.length
  ·rw [getD_set_self _ _ _ hl]; omega
  ·rw [List.set_eq_of_length_le (by omega)]; omega
 ·have : (l.set k (l.getD k 0 + 1)).getD i 0 = l.getD i 0 := by simp [List.getD, List.getElem?_set, show ¬ k = i from fun x => e x.symm]
  rw [this]; omega
theorem erase_more (s : FS) (k : Int) : (s.eraseF k).1.er.length = s.er.length ∧ (s.steps ≤ (s.eraseF k).1.steps ∧ (s.eraseF k).1.steps ≤ s.steps + 1) ∧ ∀ i, s.er.getD i 0 ≤ (s.eraseF k).1.er.getD i 0 ∧ (s.eraseF k).1.er.getD i 0 ≤ s.er.getD i 0 + 1 := by
 have h0 : s.er.length = s.er.length ∧ (s.steps ≤ s.steps ∧ s.steps ≤ s.steps + 1) ∧ ∀ i, s.er.getD i 0 ≤ s.er.getD i 0 ∧ s.er.getD i 0 ≤ s.er.getD i 0 + 1 := ⟨rfl, ⟨by omega, by omega⟩, fun i => ⟨by omega, by omega⟩⟩
 have h1 : ∀ b : List Int, ({ (s.erased k.toNat).stepped with b := b } : FS).er.length = s.er.length ∧ (s.steps ≤ ({ (s.erased k.toNat).stepped with b := b } : FS).steps ∧ ({ (s.erased k.toNat).stepped with b := b } : FS).steps ≤ s.steps + 1) ∧ ∀ i, s.er.getD i 0 ≤ ({ (s.erased k.toNat).stepped with b := b } : FS).er.getD i 0 ∧ ({ (s.erased k.toNat).stepped with b := b } : FS).er.getD i 0 ≤ s.er.getD i 0 + 1 := fun b => by
  have e1 : (s.erased k.toNat).stepped.er = s.er.set k.toNat (s.er.getD k.toNat 0 + 1) := (s.erased k.toNat).stepped_er
  have e2 : (s.erased k.toNat).stepped.steps = s.steps + 1 := (s.erased k.toNat).stepped_steps
  show (s.erased k.toNat).stepped.er.length = s.er.length ∧ (s.steps ≤ (s.erased k.toNat).stepped.steps ∧ (s.erased k.toNat).stepped.steps ≤ s.steps + 1) ∧ ∀ i, s.er.getD i 0 ≤ (s.erased k.toNat).stepped.er.getD i 0 ∧ (s.erased k.toNat).stepped.er.getD i 0 ≤ s.er.getD i 0 + 1
  rw [e1, e2]
  exact ⟨List.length_set, ⟨by omega, by omega⟩, fun i => set_more _ _ _⟩
 unfold FS.eraseF
 split
 ·exact h0
 ·split
  ·exact h0
  ·split
   ·exact h1 _
   ·exact h1 _
theorem Room.prog {s : FS} {m : Nat} {zs : List Int} (h : Room s (m + zs.length)) (f c : Nat) (a : Int) : Room (s.gprog f c a zs).1 m := by
 have := gprog_more s f c a zs
 have h1 := h.st
 exact ⟨by omega, fun i => by rw [this.1]; have := h.er i; omega⟩
theorem tl149 (P : Prop) (h : P := by
 have := erase_more s (f + k)
 have h1 := h.st
 exact ⟨by omega, fun i => by have h2 := h.er i; have h3 := this.2.2 i; omega⟩) : P := h
theorem tl148 (P : Prop) (h : P := by
 split
 ·exact h.less (by omega)
 ·exact tl149 _) : P := h
theorem tl147 (P : Prop) (h : P := by
 unfold FS.gerase
 split
 ·exact h.less (by omega)
 ·exact tl148 _) : P := h
theorem Room.erase {s : FS} {m : Nat} (h : Room s (m + 1)) (f c : Nat) (k : Int) : Room (s.gerase f c k).1 m := by
 exact tl147 _
open Go.RowKit
def layE (s : FS) (k : Int) : FS × Int := if (s.gblank 0 2 k).2 = 0 ∧ (s.gblank 0 2 k).1 = false then s.gerase 0 2 k else (s, (s.gblank 0 2 k).2)
def layP (r : FS × Int) (k : Int) (b : List Int) : FS × Int := if r.2 = 0 then r.1.gprog 0 2 (k * 1024 + 16) b else r
def layH (r : FS × Int) (k : Int) (epoch : Nat) : FS × Int := if r.2 = 0 then r.1.gprog 0 2 (k * 1024) (putL 1 ((epoch : Int) + 1) []) else r
def layF (s : FS) (k : Int) (epoch : Nat) (b : List Int) : FS × Int := layH (layP (layE s k) k b) k epoch
def LDoneJ (w : World) (B q : Nat) (X : JX) (r : FS × Int) (j : JS) (e : Ending) (w' : World) : Prop := e = .returned (.int .i64 r.2) ∧ ∃ L', JTurn w w' B q X { X with L := L' } r.1 j
theorem Bs.blt {w : World} {A : Option Addr} {n cap : Nat} {zs : List Int} (h : Bs w A n cap zs) (hn : 0 < n) {b off : Nat} (e : A = some ⟨b, off, none⟩) : b < w.heap.size := by
 obtain ⟨b', off', e', hb, -⟩ := h.at_ hn
 rw [e] at e'
 cases e'
 exact hb
set_option maxRecDepth 100000 in
theorem tl151 (P : Prop) (h : P := by
 subst q2
 have HE : Hid (layH (s2, 0) k j.epoch = s2.gprog 0 2 (k * 1024) (putL 1 ((j.epoch : Int) + 1) [])) := if_pos rfl
 have PUT := Lib.hid (fun w => sput_all 1 ((ep : Int) + 1) none 0 0 [] w (bsNil w))
 rw [HEP.out] at HE RES
 have PLE := putL_le 1 ((ep : Int) + 1) []
 obtain ⟨pl, HPL⟩ : ∃ x, Hid (putL 1 ((ep : Int) + 1) [] = x) := ⟨_, rfl⟩
 rw [HPL.out] at PUT HE PLE
 obtain ⟨pn, HPN⟩ : ∃ x, Hid (pl.length = x) := ⟨_, rfl⟩
 rw [HPN.out] at PLE
 have y0 := T2.out.at_.c.cellD 0 _ rfl
 have y1 := T2.out.at_.c.cellD 1 _ rfl
 have y2 := T2.out.at_.c.cellD 2 _ rfl
 have y4 := T2.out.at_.c.cellD 4 _ rfl
 dsimp only at y0 y1 y2 y4
 rw [HEP.out] at y4
 go_wp2
 obtain ⟨mhS, mhh⟩ : ∃ S : World → Prop, ∀ w', S w' ↔ (w'.cell? ⟨jb, 0, none⟩ = some (.pointer (some ⟨q, 0, none⟩)) ∧ w'.cell? ⟨jb, 1, none⟩ = some (.int .i64 0) ∧ w'.cell? ⟨jb, 2, none⟩ = some (.int .i64 2) ∧ w'.cell? ⟨jb, 4, none⟩ = some (.int .i64 (ep : Int))) := ⟨_, fun _ => Iff.rfl⟩
 have mhk0 : ∀ x : Memb mhS, x.at_.cell? ⟨jb, 0, none⟩ = some (.pointer (some ⟨q, 0, none⟩)) := fun x => ((mhh _).1 x.is).1
 have mhk1 : ∀ x : Memb mhS, x.at_.cell? ⟨jb, 1, none⟩ = some (.int .i64 0) := fun x => ((mhh _).1 x.is).2.1
 have mhk2 : ∀ x : Memb mhS, x.at_.cell? ⟨jb, 2, none⟩ = some (.int .i64 2) := fun x => ((mhh _).1 x.is).2.2.1
 have mhk3 : ∀ x : Memb mhS, x.at_.cell? ⟨jb, 4, none⟩ = some (.int .i64 (ep : Int)) := fun x => ((mhh _).1 x.is).2.2.2
 have mhn : Nonempty (Memb mhS) := ⟨⟨(w2).drew, (mhh _).2 ⟨y0, y1, y2, y4⟩⟩⟩
 have mhH := Lib.hid mhh
 clear mhh
 refine wp_region_mix [12, 13] (InS mhS) (by kernel_rfl) (by kernel_rfl) (InS.mk ((mhH.out _).2 ⟨y0, y1, y2, y4⟩)) ?_
 refine wpMix_seg 12 (by kernel_rfl) (by decide) ?_
 simp only [tds]
 repeat (go_big_quiet_step (fail))
 refine wpQuiet_nil ?_
 refine wpMix_eff (by kernel_rfl) ?_
 go_wp2_with fail
 refine (PUT.out _).mono ?_
 rintro e w5 ⟨v5, rfl, o5, k5⟩
 obtain ⟨A5, c5, rfl, b5, in5⟩ := o5.shape
 rw [HPN.out] at b5 ⊢
 have l5 := b5.le
 have m5 := b5.max
 have B5 := Lib.hid b5
 have I5 := Lib.hid in5
 have K5 := Lib.hid ((Keeps.refl None w2).drew.trans k5 (T := None) (fun _ h => h) (fun _ _ h => h))
 have J5 := Lib.hid (T2.out.at_.later K5.out)
 clear o5 k5 b5 in5
 go_wp2
 refine MixK.on (InS.mk ((mhH.out _).2 (⟨J5.out.c.cellD 0 _ rfl, J5.out.c.cellD 1 _ rfl, J5.out.c.cellD 2 _ rfl, HEP.out ▸ J5.out.c.cellD 4 _ rfl⟩))) ?_
 refine wpMix_eff (by kernel_rfl) ?_
 go_wp2_with fail
 refine (J5.out.prog (k * 1024) B5.out (by have := RM2.out.st; omega) (fun b off h0 e hS => by have h1 := (I5.out b off e).1; have h2 := T2.out.at_.lt b hS; have h3 : w2.drew.heap.size = w2.heap.size := rfl; omega)).mono ?_
 rw [← HE.out, ← RES.out]
 rintro e w6 ⟨rfl, L3, t6⟩
 have T3 := Lib.hid ((T2.out.later K5.out).trans t6)
 clear t6
 go_wp2
 refine MixK.on (InS.mk ((mhH.out _).2 (⟨T3.out.at_.c.cellD 0 _ rfl, T3.out.at_.c.cellD 1 _ rfl, T3.out.at_.c.cellD 2 _ rfl, HEP.out ▸ T3.out.at_.c.cellD 4 _ rfl⟩))) ?_
 refine wpMix_seg 1 (by kernel_rfl) (by decide) ?_
 simp only [tds]
 repeat (go_big_quiet_step (fail))
 refine wpQuiet_nil ?_
 refine wpMix_nil ?_
 clear mhk0 mhk1 mhk2 mhk3 mhn mhH
 go_wp2
 go_ret
 exact ⟨rfl, L3, T3.out⟩) : P := h
theorem tl152 (P : Prop) (h : P := by
 have e2 : (x2 == 0) = false := by simpa using q2
 have LH : Hid (layH (s2, x2) k j.epoch = (s2, x2)) := if_neg q2
 rw [LH.out] at RES
 go_wp2
 go_ret
 exact ⟨by rw [RES.out]; rfl, L2, by rw [RES.out]; exact T2.out⟩) : P := h
theorem tl150 (P : Prop) (h : P := by
 have LP : Hid (layP (s1, 0) k b = s1.gprog 0 2 (k * 1024 + 16) b) := if_pos rfl
 have y0 := T1.out.at_.c.cellD 0 _ rfl
 have y1 := T1.out.at_.c.cellD 1 _ rfl
 have y2 := T1.out.at_.c.cellD 2 _ rfl
 dsimp only at y0 y1 y2
 have PRG := Lib.hid (T1.out.at_.prog (k * 1024 + 16) (HB.out.keeps T1.out.keeps (fun bb off h0 _ e hS => NB.out bb off h0 e hS)) (by have := RM1.out.st; omega) (fun bb off h0 e hS => by rcases T1.out.o bb hS with h1 | h1; exact NB.out bb off h0 e h1; have := HB.out.blt h0 e; omega))
 have RM2 := Lib.hid ((RM1.out.less (show 700 + b.length ≤ 2000 by have := HL.out; omega)).prog 0 2 (k * 1024 + 16))
 rw [LP.out] at RES
 obtain ⟨⟨s2, x2⟩, HG⟩ : ∃ x, Hid (s1.gprog 0 2 (k * 1024 + 16) b = x) := ⟨_, rfl⟩
 rw [HG.out] at PRG RES RM2
 dsimp only at PRG RM2
 go_wp2_with fail
 refine PRG.out.mono ?_
 rintro e w2 ⟨rfl, L2, t2⟩
 have T2 := Lib.hid (T1.out.trans t2)
 clear t2 PRG y0 y1 y2
 by_cases q2 : x2 = 0
 ·exact tl151 _
 ·exact tl152 _) : P := h
theorem tl153 (P : Prop) (h : P := by
 have e1 : (x1 == 0) = false := by simpa using q1
 have LP : Hid (layP (s1, x1) k b = (s1, x1)) := if_neg q1
 have LH : Hid (layH (s1, x1) k j.epoch = (s1, x1)) := if_neg q1
 rw [LP.out, LH.out] at RES
 go_wp2
 go_ret
 exact ⟨by rw [RES.out]; rfl, L1, by rw [RES.out]; exact T1.out⟩) : P := h
set_option maxRecDepth 100000 in
set_option maxHeartbeats 3200000 in
theorem jlay_any (B q : Nat) (X : JX) (s : FS) (j : JS) (k : Int) (A : Option Addr) (m c : Nat) (b : List Int) (w : World) (h : JAt w B q X s j) (hn : 2 ≤ X.L.n) (ok : JOk j) (hk : 0 ≤ k ∧ k ≤ 1) (hb : Bs w A m c b) (hm : m ≤ 1008) (nb : ∀ bb off, 0 < m → A = some ⟨bb, off, none⟩ → ¬ X.S bb) (rm : Room s 2001) :
    Calls Tryz.prog 86 #[.pointer (some ⟨X.jb, 0, none⟩), .int .i64 k, .slice A m c] w (LDoneJ w B q X (layF s k j.epoch b) j) := by
 obtain ⟨L, jb, lv, rs⟩ := X
 dsimp only at h hn ⊢
 obtain ⟨hk0, hk1⟩ := hk
 have HB := Lib.hid hb
 have HL : Hid (b.length = m) := hb.len
 have hle := hb.le
 have hmx := hb.max
 have NB := Lib.hid nb
 have HJ := Lib.hid h
 obtain ⟨ep, HEP⟩ : ∃ x, Hid (j.epoch = x) := ⟨_, rfl⟩
 have hep : ep ≤ 4294967295 := by rw [← HEP.out]; exact ok.epoch
 have y0 := h.c.cellD 0 _ rfl
 have y1 := h.c.cellD 1 _ rfl
 have y2 := h.c.cellD 2 _ rfl
 dsimp only at y0 y1 y2
 have IB := Lib.hid (gisblank_any B L s q 0 2 k w h.f h.hq hn)
 have ER := Lib.hid (fun w' (h' : JAt w' B q ⟨L, jb, lv, rs⟩ s j) => h'.erase k (by have := rm.st; omega) (fun i => by have := rm.er i; omega))
 have HRM := Lib.hid rm
 have RMX : Hid (Room (layE s k).1 2000) := by
  show Room _ _
  unfold layE
  split
  ·exact rm.erase 0 2 k
  ·exact rm.less (by decide)
 obtain ⟨res, HRES⟩ : ∃ x, Hid (layF s k j.epoch b = x) := ⟨_, rfl⟩
 have LE : Hid (layE s k = if (s.gblank 0 2 k).2 = 0 ∧ (s.gblank 0 2 k).1 = false then s.gerase 0 2 k else (s, (s.gblank 0 2 k).2)) := rfl
 have RES0 : Hid (res = layH (layP (layE s k) k b) k j.epoch) := HRES.out.symm
 obtain ⟨⟨b0, e0⟩, HG0⟩ : ∃ x, Hid (s.gblank 0 2 k = x) := ⟨_, rfl⟩
 rw [HG0.out] at IB LE
 dsimp only at IB LE
 rw [HRES.out]
 clear h hb nb rm ok HRES
 go_enter Tryz.func86, Tryz.ntmps86
 go_wp2_with fail
 refine IB.out.mono ?_
 rintro e w0 ⟨rfl, k0⟩
 have T0 := Lib.hid (JTurn.still HJ.out k0)
 have y0 := T0.out.at_.c.cellD 0 _ rfl
 have y1 := T0.out.at_.c.cellD 1 _ rfl
 have y2 := T0.out.at_.c.cellD 2 _ rfl
 dsimp only at y0 y1 y2
 clear k0
 by_cases g1 : e0 = 0 ∧ b0 = false
 ·obtain ⟨rfl, rfl⟩ := g1
  have LE2 := Lib.hid (LE.out.trans (if_pos ⟨rfl, rfl⟩))
  have ERK := Lib.hid (ER.out w0 T0.out.at_)
  rw [LE2.out] at RES0 RMX
  obtain ⟨⟨s1, x1⟩, HGE⟩ : ∃ x, Hid (s.gerase 0 2 k = x) := ⟨_, rfl⟩
  rw [HGE.out] at ERK RES0 RMX
  dsimp only at ERK RMX
  have RM1 := RMX
  have RES := RES0
  go_wp2_with fail
  refine ERK.out.mono ?_
  rintro e w1 ⟨rfl, L1, t1⟩
  have T1 := Lib.hid (T0.out.trans t1)
  clear t1 ERK ER LE LE2 y0 y1 y2
  by_cases q1 : x1 = 0
  ·subst q1
   exact tl150 _
  ·skip
   exact tl153 _
 ·have LE2 := Lib.hid (LE.out.trans (if_neg g1))
  rw [LE2.out] at RES0 RMX
  dsimp only at RMX
  obtain ⟨s1, rfl⟩ : ∃ x, x = s := ⟨_, rfl⟩
  obtain ⟨x1, rfl⟩ : ∃ x, x = e0 := ⟨_, rfl⟩
  obtain ⟨L1, rfl⟩ : ∃ x, x = L := ⟨_, rfl⟩
  obtain ⟨w1, rfl⟩ : ∃ x, x = w0 := ⟨_, rfl⟩
  have T1 := T0
  have RM1 := RMX
  have RES := RES0
  clear T0 RMX RES0 LE LE2 ER y0 y1 y2
  by_cases g2 : x1 = 0
  ·have hb0 : b0 = true := by cases b0 with
    | true => rfl
    | false => exact absurd ⟨g2, rfl⟩ g1
   subst hb0
   subst g2
   exact tl150 _
  ·have q1 := g2
   exact tl153 _
open Go.RowKit
theorem tl155 (P : Prop) (h : P := by
 obtain ⟨⟨p1, p2⟩, p3⟩ := bd.p r hr' b hb
 exact ⟨⟨Nat.le_trans hBA p1, fun hO => hr r hr' b hb (.inl hO), fun e => hr r hr' b hb (.inr (.inl e)), p2⟩, Nat.lt_of_lt_of_le p3 ks.size⟩) : P := h
theorem tl156 (P : Prop) (h : P := by
 rcases hk with hk | hk | hk | ⟨r, hr', hb⟩
 ·exact t.o k (.inl hk)
 ·exact t.o k (.inr (.inl hk))
 ·exact .inr (o.block hk).1
 ·exact .inr (bd.p r hr' k hb).1.1) : P := h
theorem tl154 (P : Prop) (h : P := by
 have h := t.at_
 have ks := (Keeps.self X.jb w0).put 3 v
 refine ⟨⟨h.f.keeps ks (fun b hO (e : b = X.jb) => h.jo (e ▸ hO)), h.hq, h.c.set 3 v, (o.keeps ks (fun b hb (e : b = X.jb) => hv b hb (.inr (.inl e)))).lower hBA, ⟨fun r hr' => (bd.bs r hr').keeps ks (fun b off h0 _ e hb => hr r hr' b ⟨off, h0, e⟩ (.inr (.inl hb))), fun r hr' b hb => ?_⟩, rfl, h.jo, h.jB, fun b hb => ⟨fun hO => hv b hb (.inl hO), fun e => hv b hb (.inr (.inl e))⟩⟩, t.keeps.trans ks (fun _ h => h) (fun b _ (e : b = X.jb) => .inr (.inl (e.trans t.jb))), fun k hk => ?_, t.jb⟩
 ·exact tl155 _
 ·exact tl156 _) : P := h
theorem JTurn.relist {wA w0 : World} {B q : Nat} {XA X : JX} {s : FS} {j : JS} {v : Value} {rs' : List RV} (t : JTurn wA w0 B q XA X s j) (hBA : B ≤ wA.heap.size) (o : OwnR w0 wA.heap.size v rs') (bd : Bds w0 (fun b => wA.heap.size ≤ b ∧ ¬ v.ownBlock = some b) rs')
    (hv : ∀ b, v.ownBlock = some b → ¬ X.S b) (hr : ∀ r ∈ rs', ∀ b, r.at_ b → ¬ X.S b) : JTurn wA (w0.setCell ⟨X.jb, 3, none⟩ v) B q XA ⟨X.L, X.jb, v, rs'⟩ s { j with l := rs'.map RV.r } := by
 exact tl154 _
def nextZ (c : Int) : Int := if c = 0 then 1 else 0
def cmpF (s : FS) (j : JS) (recs : List Rec) : FS × JS × Int :=
  if j.err ≠ 0 then (s, j, j.err)
  else if 4294967295 ≤ j.epoch then (s, j, 14)
  else match packF [] (numR 0 recs) with
    | none => (s, j, 1)
    | some b => if (layF s (nextZ j.cur) j.epoch b).2 ≠ 0 then ((layF s (nextZ j.cur) j.epoch b).1, { j with err := (layF s (nextZ j.cur) j.epoch b).2 }, (layF s (nextZ j.cur) j.epoch b).2)
      else ((layF s (nextZ j.cur) j.epoch b).1, ⟨numR 0 recs, j.epoch + 1, nextZ j.cur, 16 + b.length, false, 0⟩, 0)
theorem packF_len : ∀ (rs : List Rec) (out b : List Int), out.length ≤ 1008 → packF out rs = some b → b.length ≤ 1008
  | [], out, b, h, e => by simp only [packF, Option.some.injEq] at e; rw [← e]; exact h
  | r :: rs, out, b, h, e => by
    unfold packF at e
    split at e
    · cases e
    · rename_i h1
      exact packF_len rs _ b (by rw [List.length_append]; omega) e
theorem tl158 (P : Prop) (h : P := by
 have d0 : (j.err == 0) = false := by simpa using q0
 have d0n : (j.err != 0) = true := by simpa using q0
 have E0 : Hid (res = (s, j, j.err)) := CMP.out.trans (if_pos q0)
 clear CMP
 go_wp2
 go_ret
 exact ⟨by rw [E0.out]; rfl, ⟨L, jb, lv, rs⟩, by rw [E0.out]; exact TS.out⟩) : P := h
theorem tl159 (P : Prop) (h : P := by
 have d1 : decide ((4294967295 : Int) ≤ (ep : Int)) = true := decide_eq_true (by omega)
 have E0 : Hid (res = (s, j, 14)) := CMP2.out.trans (if_pos (by rw [HEP.out]; exact q1))
 clear CMP2
 go_wp2
 go_ret
 exact ⟨by rw [E0.out]; rfl, ⟨L, jb, lv, rs⟩, by rw [E0.out]; exact TS.out⟩) : P := h
theorem tl157 (P : Prop) (h : P := by
 by_cases q0 : j.err ≠ 0
 ·exact tl158 _
 have q0e : j.err = 0 := Classical.byContradiction q0
 have CMP2 := Lib.hid (CMP.out.trans (if_neg q0))
 rw [q0e] at y8
 clear CMP q0 q0e
 by_cases q1 : 4294967295 ≤ ep
 ·exact tl159 _
 have d1 : decide ((4294967295 : Int) ≤ (ep : Int)) = false := decide_eq_false (by omega)
 have CMP3 := Lib.hid (CMP2.out.trans (if_neg (by rw [HEP.out]; exact q1)))
 clear CMP2
 have E0 : Hid (res = (s, j, 1)) := CMP3.out
 clear CMP3
 go_wp2
 go_ret
 exact ⟨by rw [E0.out]; rfl, ⟨L, jb, lv, rs⟩, by rw [E0.out]; exact TS.out⟩) : P := h
theorem tl160 (P : Prop) (h : P := by
 have dx : (x1 != 0) = true := by simpa using qx
 have E0 := Lib.hid (CMP4.out.trans (if_pos qx))
 have z8 := T4.out.at_.c.cellD 8 _ rfl
 dsimp only at z8
 clear CMP4
 go_wp2
 go_ret
 exact ⟨by rw [E0.out]; rfl, ⟨L1, jb, lv, rs⟩, by rw [E0.out]; exact T4.out⟩) : P := h
theorem tl161 (P : Prop) (h : P := by
 try dsimp only at P3 P4 P5 P6 P7
 have e4 : ((ep + 1 : Nat) : Int) = (ep : Int) + 1 := by omega
 have e6 : ((16 + bn : Nat) : Int) = 16 + (bn : Int) := by omega
 have PF := Lib.hid (P3.out.trans (P4.out.t.trans (P5.out.t.trans (P6.out.t.trans P7.out.t))))
 rw [e4, e6] at PF
 clear P3 P4 P5 P6 P7 e4 e6
 have z4 := T4.out.at_.c.cellD 4 _ rfl
 have f3 := T4.out.at_.c.frozen 3
 have f4 := T4.out.at_.c.frozen 4
 have f5 := T4.out.at_.c.frozen 5
 have f6 := T4.out.at_.c.frozen 6
 have f7 := T4.out.at_.c.frozen 7
 have z3 := T4.out.at_.c.cellD 3 _ rfl
 have z5 := T4.out.at_.c.cellD 5 _ rfl
 have z6 := T4.out.at_.c.cellD 6 _ rfl
 have z7 := T4.out.at_.c.cellD 7 _ rfl
 dsimp only at z3 z4 z5 z6 z7 f3 f4 f5 f6 f7
 rw [HEP.out] at z4
 obtain ⟨A9, c9, hlv9, r9, -⟩ := HJ.out.l.shape
 dsimp only at hlv9
 rw [hlv9] at z3
 clear hlv9 r9
 go_wp2
 go_ret
 exact ⟨by rw [E0.out]; rfl, ⟨L1, jb, .slice A1 n c1, cs⟩, by rw [E0.out, HBN.out, HEP.out]; exact PF.out⟩) : P := h
set_option maxRecDepth 100000 in
set_option maxHeartbeats 3200000 in
theorem jcompact_any (B q : Nat) (X : JX) (s : FS) (j : JS) (A : Option Addr) (n cap : Nat) (rs0 : List RV) (P : Nat → Prop) (w : World) (h : JAt w B q X s j) (hn2 : 2 ≤ X.L.n) (ok : JOk j) (hr : Rws w A n cap rs0) (hb : Bds w P rs0) (hn : n ≤ 100000) (hbl : ∀ r ∈ rs0, r.b.length ≤ 140737488355328) (rm : Room s 2001) :
    Calls Tryz.prog 61 #[.pointer (some ⟨X.jb, 0, none⟩), .slice A n cap] w (JDone w B q X (cmpF s j (rs0.map RV.r))) := by
 obtain ⟨L, jb, lv, rs⟩ := X
 dsimp only at h hn2 ⊢
 have HJ := Lib.hid h
 have OK := Lib.hid ok
 have HRM := Lib.hid rm
 have HBA : Hid (B ≤ w.heap.size) := Nat.le_of_lt (Nat.lt_of_le_of_lt h.jB h.c.lt)
 have NUM := Lib.hid (jnumbered_any A n cap rs0 P w hr hb (by omega) hbl)
 have HRL := Lib.hid hr.len
 obtain ⟨recs, HRE⟩ : ∃ x, Hid (numR 0 (rs0.map RV.r) = x) := ⟨_, rfl⟩
 have CMP : Hid (cmpF s j (rs0.map RV.r) = if j.err ≠ 0 then (s, j, j.err)
 else if 4294967295 ≤ j.epoch then (s, j, 14)
 else match packF [] recs with
  | none => (s, j, 1)
  | some b => if (layF s (nextZ j.cur) j.epoch b).2 ≠ 0 then ((layF s (nextZ j.cur) j.epoch b).1, { j with err := (layF s (nextZ j.cur) j.epoch b).2 }, (layF s (nextZ j.cur) j.epoch b).2)
   else ((layF s (nextZ j.cur) j.epoch b).1, ⟨recs, j.epoch + 1, nextZ j.cur, 16 + b.length, false, 0⟩, 0)) := by
  show _ = _
  rw [← HRE.out]
  rfl
 rw [HRE.out] at NUM
 obtain ⟨res, HRES⟩ : ∃ x, Hid (cmpF s j (rs0.map RV.r) = x) := ⟨_, rfl⟩
 rw [HRES.out] at CMP ⊢
 obtain ⟨ep, HEP⟩ : ∃ x, Hid (j.epoch = x) := ⟨_, rfl⟩
 have hep : ep ≤ 4294967295 := by rw [← HEP.out]; exact ok.epoch
 clear h hr hb hbl HRES ok rm
 go_enter Tryz.func61, Tryz.ntmps61
 go_wp2_with fail
 refine NUM.out.mono ?_
 rintro e w1 ⟨v1, cs, rfl, cp, hm⟩
 obtain ⟨A1, c1, rfl, r1, in1⟩ := cp.o.shape
 have hcl : cs.length = n := by
  have h1 := congrArg List.length hm
  rw [List.length_map, ← HRE.out, numR_len, List.length_map, HRL.out] at h1
  exact h1
 have l1 := r1.le
 have m1 := r1.max
 rw [hcl] at r1 l1
 have HCL := Lib.hid hcl
 have R1 := Lib.hid r1
 have CP := Lib.hid cp
 have HM := Lib.hid hm
 rw [HCL.out] at CP ⊢
 clear cp hm r1 in1 hcl NUM
 have PK := Lib.hid (jpacked_any A1 n c1 cs _ w1 R1.out CP.out.bd (by omega))
 rw [HM.out] at PK
 go_wp2_with fail
 refine PK.out.mono ?_
 obtain ⟨pk, HPK⟩ : ∃ x, Hid (packF [] recs = x) := ⟨_, rfl⟩
 rw [HPK.out] at CMP ⊢
 rintro e w2 ⟨k2, hpk⟩
 have CP2 := Lib.hid (CP.out.keeps k2)
 have T2 := Lib.hid (JTurn.still HJ.out CP2.out.k)
 have TS := T2
 have y4 := T2.out.at_.c.cellD 4 _ rfl
 have y5 := T2.out.at_.c.cellD 5 _ rfl
 have y8 := T2.out.at_.c.cellD 8 _ rfl
 dsimp only at y4 y5 y8
 rw [HEP.out] at y4
 have K12 := Lib.hid k2.size
 cases pk with
 | none =>
  obtain rfl := hpk
  by_cases qc : j.cur = 0
  ·have d5 : (j.cur == 0) = true := by simpa using qc
   rw [qc] at y5
   exact tl157 _
  ·have d5 : (j.cur == 0) = false := by simpa using qc
   exact tl157 _
 | some b =>
  obtain ⟨vb, rfl, ob⟩ := hpk
  obtain ⟨Ab, cb, rfl, bb, inb⟩ := ob.shape
  have hbn := packF_len recs [] b (by decide) HPK.out
  obtain ⟨bn, HBN⟩ : ∃ x, Hid (b.length = x) := ⟨_, rfl⟩
  rw [HBN.out] at hbn bb ⊢
  have lb := bb.le
  have mb := bb.max
  have BB := Lib.hid bb
  have INB := Lib.hid inb
  clear ob bb inb
  by_cases qc : j.cur = 0
  ·have d5 : (j.cur == 0) = true := by simpa using qc
   rw [qc] at y5
   by_cases q0 : j.err ≠ 0
   ·exact tl158 _
   have q0e : j.err = 0 := Classical.byContradiction q0
   have CMP2 := Lib.hid (CMP.out.trans (if_neg q0))
   rw [q0e] at y8
   clear CMP q0 q0e
   by_cases q1 : 4294967295 ≤ ep
   ·exact tl159 _
   have d1 : decide ((4294967295 : Int) ≤ (ep : Int)) = false := decide_eq_false (by omega)
   have CMP3 := Lib.hid (CMP2.out.trans (if_neg (by rw [HEP.out]; exact q1)))
   clear CMP2
   have NZ : Hid (nextZ j.cur = 1) := by show _ = _; unfold nextZ; first | exact if_pos qc | exact if_neg qc
   have CMP4 := CMP3
   rw [NZ.out] at CMP4
   dsimp only at CMP4
   clear CMP3
   have LAY := Lib.hid (jlay_any B q ⟨L, jb, lv, rs⟩ s j (1) Ab bn cb b w2 T2.out.at_ hn2 OK.out (by decide) BB.out hbn (fun bb off h0 e hS => by have h1 := INB.out bb off e; have h2 := HJ.out.lt bb hS; have h3 := CP.out.k.size; omega) HRM.out)
   obtain ⟨⟨s1, x1⟩, HG⟩ : ∃ x, Hid (layF s (1) j.epoch b = x) := ⟨_, rfl⟩
   rw [HG.out] at LAY CMP4
   dsimp only at CMP4
   go_wp2_with fail
   refine LAY.out.mono ?_
   rintro e w3 ⟨rfl, L1, t3⟩
   have T3 := Lib.hid t3
   clear t3 LAY
   go_wp2_with fail
   refine (jfailed_any B q _ s1 j x1 w3 T3.out.at_).mono ?_
   rintro e w4 ⟨rfl, p4⟩
   have T24 := Lib.hid (T3.out.trans p4.t)
   have T4 := Lib.hid (T2.out.trans T24.out)
   clear p4 T3
   by_cases qx : x1 ≠ 0
   ·exact tl160 _
   obtain rfl : x1 = 0 := Classical.byContradiction qx
   have E0 := Lib.hid (CMP4.out.trans (if_neg qx))
   clear CMP4 qx
   have NX : Hid (∀ k, JX.S ⟨L, jb, lv, rs⟩ k → k < w.heap.size) := HJ.out.lt
   have NX1 : Hid (∀ k, JX.S ⟨L1, jb, lv, rs⟩ k → k < w.heap.size ∨ w2.heap.size ≤ k) := fun k hk => (T24.out.o k hk).imp (NX.out k) id
   have O4 := Lib.hid (CP2.out.o.keeps T24.out.keeps (fun bb e hS => by have h1 := CP2.out.o.block e; have h2 := NX.out bb hS; omega))
   have D4 := Lib.hid (CP2.out.bd.keeps T24.out.keeps (fun bb hp _ hS => by have h1 := hp.1; have h2 := NX.out bb hS; omega))
   have P3 := Lib.hid (T4.out.relist HBA.out O4.out D4.out (fun bb e hS => by have h1 := CP2.out.o.block e; rcases NX1.out bb hS with h2 | h2 <;> omega) (fun r hr bb hb hS => by have h1 := CP2.out.bd.p r hr bb hb; have h0 := h1.1.1; rcases NX1.out bb hS with h2 | h2 <;> omega))
   have P4 := Lib.hid (P3.out.at_.put (j' := ⟨recs, ep + 1, j.cur, j.used, j.torn, 0⟩) 4 (.int .i64 ((ep + 1 : Nat) : Int)) rfl (by rw [← HM.out]))
   have P5 := Lib.hid (P4.out.at_.put (j' := ⟨recs, ep + 1, 1, j.used, j.torn, 0⟩) 5 (.int .i64 (1)) rfl rfl)
   have P6 := Lib.hid (P5.out.at_.put (j' := ⟨recs, ep + 1, 1, 16 + bn, j.torn, 0⟩) 6 (.int .i64 ((16 + bn : Nat) : Int)) rfl rfl)
   have P7 := Lib.hid (P6.out.at_.put (j' := ⟨recs, ep + 1, 1, 16 + bn, false, 0⟩) 7 (.bool false) rfl rfl)
   exact tl161 _
  ·have d5 : (j.cur == 0) = false := by simpa using qc
   by_cases q0 : j.err ≠ 0
   ·exact tl158 _
   have q0e : j.err = 0 := Classical.byContradiction q0
   have CMP2 := Lib.hid (CMP.out.trans (if_neg q0))
   rw [q0e] at y8
   clear CMP q0 q0e
   by_cases q1 : 4294967295 ≤ ep
   ·exact tl159 _
   have d1 : decide ((4294967295 : Int) ≤ (ep : Int)) = false := decide_eq_false (by omega)
   have CMP3 := Lib.hid (CMP2.out.trans (if_neg (by rw [HEP.out]; exact q1)))
   clear CMP2
   have NZ : Hid (nextZ j.cur = 0) := by show _ = _; unfold nextZ; first | exact if_pos qc | exact if_neg qc
   have CMP4 := CMP3
   rw [NZ.out] at CMP4
   dsimp only at CMP4
   clear CMP3
   have LAY := Lib.hid (jlay_any B q ⟨L, jb, lv, rs⟩ s j (0) Ab bn cb b w2 T2.out.at_ hn2 OK.out (by decide) BB.out hbn (fun bb off h0 e hS => by have h1 := INB.out bb off e; have h2 := HJ.out.lt bb hS; have h3 := CP.out.k.size; omega) HRM.out)
   obtain ⟨⟨s1, x1⟩, HG⟩ : ∃ x, Hid (layF s (0) j.epoch b = x) := ⟨_, rfl⟩
   rw [HG.out] at LAY CMP4
   dsimp only at CMP4
   go_wp2_with fail
   refine LAY.out.mono ?_
   rintro e w3 ⟨rfl, L1, t3⟩
   have T3 := Lib.hid t3
   clear t3 LAY
   go_wp2_with fail
   refine (jfailed_any B q _ s1 j x1 w3 T3.out.at_).mono ?_
   rintro e w4 ⟨rfl, p4⟩
   have T24 := Lib.hid (T3.out.trans p4.t)
   have T4 := Lib.hid (T2.out.trans T24.out)
   clear p4 T3
   by_cases qx : x1 ≠ 0
   ·exact tl160 _
   obtain rfl : x1 = 0 := Classical.byContradiction qx
   have E0 := Lib.hid (CMP4.out.trans (if_neg qx))
   clear CMP4 qx
   have NX : Hid (∀ k, JX.S ⟨L, jb, lv, rs⟩ k → k < w.heap.size) := HJ.out.lt
   have NX1 : Hid (∀ k, JX.S ⟨L1, jb, lv, rs⟩ k → k < w.heap.size ∨ w2.heap.size ≤ k) := fun k hk => (T24.out.o k hk).imp (NX.out k) id
   have O4 := Lib.hid (CP2.out.o.keeps T24.out.keeps (fun bb e hS => by have h1 := CP2.out.o.block e; have h2 := NX.out bb hS; omega))
   have D4 := Lib.hid (CP2.out.bd.keeps T24.out.keeps (fun bb hp _ hS => by have h1 := hp.1; have h2 := NX.out bb hS; omega))
   have P3 := Lib.hid (T4.out.relist HBA.out O4.out D4.out (fun bb e hS => by have h1 := CP2.out.o.block e; rcases NX1.out bb hS with h2 | h2 <;> omega) (fun r hr bb hb hS => by have h1 := CP2.out.bd.p r hr bb hb; have h0 := h1.1.1; rcases NX1.out bb hS with h2 | h2 <;> omega))
   have P4 := Lib.hid (P3.out.at_.put (j' := ⟨recs, ep + 1, j.cur, j.used, j.torn, 0⟩) 4 (.int .i64 ((ep + 1 : Nat) : Int)) rfl (by rw [← HM.out]))
   have P5 := Lib.hid (P4.out.at_.put (j' := ⟨recs, ep + 1, 0, j.used, j.torn, 0⟩) 5 (.int .i64 (0)) rfl rfl)
   have P6 := Lib.hid (P5.out.at_.put (j' := ⟨recs, ep + 1, 0, 16 + bn, j.torn, 0⟩) 6 (.int .i64 ((16 + bn : Nat) : Int)) rfl rfl)
   have P7 := Lib.hid (P6.out.at_.put (j' := ⟨recs, ep + 1, 0, 16 + bn, false, 0⟩) 7 (.bool false) rfl rfl)
   exact tl161 _
open Go.RowKit
theorem halfN_byte {os ps : List Int} (ho : ∀ z ∈ os, 0 ≤ z ∧ z ≤ 255) (hp : ∀ z ∈ ps, 0 ≤ z ∧ z ≤ 255) : ∀ z ∈ halfN os ps, 0 ≤ z ∧ z ≤ 255 := by
 intro z hz
 obtain ⟨i, _, rfl⟩ := List.mem_map.1 hz
 split
 ·exact bits_or_bd _ _ (byte_getD ho i) (byte_getD hp i)
 ·exact byte_getD ho i
theorem halfN_getD (os ps : List Int) (i : Nat) : (halfN os ps).getD i 0 = if i < os.length then halfAt os ps i else 0 := by
 by_cases hi : i < os.length <;> simp [halfN, halfTo, List.getD, hi]
theorem halfN_length (os ps : List Int) : (halfN os ps).length = os.length := halfTo_length _ _ _
theorem edTo_half {os ps : List Int} (ho : ∀ z ∈ os, 0 ≤ z ∧ z ≤ 255) : edTo (halfAt os ps) os (min os.length ps.length) = halfN os ps := by
 unfold edTo halfN halfTo
 refine List.map_congr_left fun i hi => ?_
 have hi2 := List.mem_range.1 hi
 by_cases h : i < min os.length ps.length
 ·rw [if_pos h, if_pos hi2]
 ·rw [if_neg h, if_pos hi2]
  have e1 : ps.getD i 0 = 0 := by simp [List.getD, List.getElem?_eq_none (show ps.length ≤ i by omega)]
  have a := byte_getD ho i
  rw [halfAt, e1, u8_or _ _ a.1 (by omega) (by omega) (by omega)]
  rw [show ((0 : Int)).toNat = 0 from rfl, Nat.or_zero]; omega
theorem canN_half {os ps : List Int} (ho : ∀ z ∈ os, 0 ≤ z ∧ z ≤ 255) (hp : ∀ z ∈ ps, 0 ≤ z ∧ z ≤ 255) : canN (halfN os ps) os = true := by
 refine (canN_iff (halfN_byte ho hp) ho).2 ⟨halfN_length _ _, fun i => ?_⟩
 rw [halfN_getD]
 split
 ·have a := byte_getD ho i
  have b := byte_getD hp i
  rw [halfAt, u8_or _ _ a.1 (by omega) b.1 (by omega), Int.toNat_natCast, land_lor]
 ·have e1 : os.getD i 0 = 0 := by simp [List.getD, List.getElem?_eq_none (show os.length ≤ i by omega)]
  rw [e1]; rfl
open Go.RowKit
open Go.RowKit
theorem crcStep_low {x c : Nat} (hx : x < 4294967296) (hc : c < 256) (h : crcStep x c < 16777216) : x % 256 ^^^ c = 0 ∧ crcStep x c = x / 256 := by
 have hi : x % 256 ^^^ c < 256 := Nat.xor_lt_two_pow (n := 8) (Nat.mod_lt _ (by decide)) hc
 have e : halves 8 (x % 256 ^^^ c) = crcStep x c ^^^ x / 256 := by
  unfold crcStep
  rw [Nat.xor_comm (x / 256), Nat.xor_assoc, Nat.xor_self, Nat.xor_zero]
 have h1 : halves 8 (x % 256 ^^^ c) < 16777216 := by
  rw [e]; exact Nat.xor_lt_two_pow (n := 24) h (by omega)
 have h0 := halves_low _ hi h1
 refine ⟨h0, ?_⟩
 unfold crcStep
 rw [h0]
 have : halves 8 0 = 0 := by decide
 rw [this, Nat.xor_zero]
theorem crc_four {a b c d : Nat} (ha : a < 256) (hb : b < 256) (hc : c < 256) (hd : d < 256) (h : crcStep (crcStep (crcStep (crcStep 0 a) b) c) d = 0) : a = 0 ∧ b = 0 ∧ c = 0 ∧ d = 0 := by
 have l1 := crcStep_lt (x := 0) (by decide) ha
 have l2 := crcStep_lt l1 hb
 have l3 := crcStep_lt l2 hc
 obtain ⟨i4, e4⟩ := crcStep_low l3 hd (by rw [h]; decide)
 obtain ⟨i3, e3⟩ := crcStep_low l2 hc (by omega)
 obtain ⟨i2, e2⟩ := crcStep_low l1 hb (by omega)
 obtain ⟨i1, e1⟩ := crcStep_low (x := 0) (by decide) ha (by omega)
 have z1 : crcStep 0 a = 0 := by rw [e1]
 have z2 : crcStep (crcStep 0 a) b = 0 := by rw [e2, z1]
 have z3 : crcStep (crcStep (crcStep 0 a) b) c = 0 := by rw [e3, z2]
 rw [z1] at i2
 rw [z2] at i3
 rw [z3] at i4
 simp only [Nat.zero_mod, Nat.zero_xor] at i1 i2 i3 i4
 exact ⟨i1, i2, i3, i4⟩
theorem crcRun_four {s : Nat} {a b c d a' b' c' d' : Nat} (ha : a < 256) (hb : b < 256) (hc : c < 256) (hd : d < 256) (ha' : a' < 256) (hb' : b' < 256) (hc' : c' < 256) (hd' : d' < 256)
    (h : crcRun s [a, b, c, d] = crcRun s [a', b', c', d']) : a = a' ∧ b = b' ∧ c = c' ∧ d = d' := by
 have x8 : ∀ {x y : Nat}, x < 256 → y < 256 → x ^^^ y < 256 := fun h1 h2 => Nat.xor_lt_two_pow (n := 8) h1 h2
 have h' : crcStep (crcStep (crcStep (crcStep s a) b) c) d = crcStep (crcStep (crcStep (crcStep s a') b') c') d' := h
 have e : crcStep (crcStep (crcStep (crcStep 0 (a ^^^ a')) (b ^^^ b')) (c ^^^ c')) (d ^^^ d') = 0 := by
  have e0 : crcStep 0 (a ^^^ a') = crcStep s a ^^^ crcStep s a' := by rw [← crcStep_xor, Nat.xor_self]
  rw [e0, crcStep_xor, crcStep_xor, crcStep_xor, h', Nat.xor_self]
 obtain ⟨q1, q2, q3, q4⟩ := crc_four (x8 ha ha') (x8 hb hb') (x8 hc hc') (x8 hd hd') e
 exact ⟨xor_eq_zero' q1, xor_eq_zero' q2, xor_eq_zero' q3, xor_eq_zero' q4⟩
def epoB (q : Nat) : List Int := putL 1 (q : Int) []
theorem epoB_eq {q : Nat} (h : q ≤ 4294967295) : epoB q = [1, 0, 0, 0] ++ le4 q ++ (le4 (sumOf ([1, 0, 0, 0] ++ le4 q)) ++ le4 (sumOf ([1, 0, 0, 0] ++ le4 q) ^^^ 4294967295)) := by
 have hf : fitsR 1 (q : Int) ([] : List Int).length := ⟨by decide, by decide, by omega, by omega, by decide⟩
 have e : frontL 1 (q : Int) [] = [1, 0, 0, 0] ++ le4 q := by
  unfold frontL headL
  have : padK ([] : List Int).length = 0 := rfl
  rw [this, Int.toNat_natCast]
  simp
 unfold epoB putL
 rw [if_pos hf, e]
 rfl
theorem epoB_len {q : Nat} (h : q ≤ 4294967295) : (epoB q).length = 16 := by
 rw [epoB_eq h]; rfl
theorem epoB_byte {q : Nat} (h : q ≤ 4294967295) : ∀ z ∈ epoB q, 0 ≤ z ∧ z ≤ 255 := by
  have b1 : ∀ z ∈ [1, 0, 0, 0] ++ le4 q, 0 ≤ z ∧ z ≤ 255 := by
    intro z hz
    rcases List.mem_append.1 hz with hz | hz
    · simp only [List.mem_cons, List.not_mem_nil, or_false] at hz
      rcases hz with rfl | rfl | rfl | rfl <;> decide
    · exact le4_byte q (by omega) z hz
  rw [epoB_eq h]
  intro z hz
  rcases List.mem_append.1 hz with hz | hz
  · exact b1 z hz
  · exact tailLb b1 z hz
where
  tailLb {F : List Int} (hF : ∀ z ∈ F, 0 ≤ z ∧ z ≤ 255) : ∀ z ∈ le4 (sumOf F) ++ le4 (sumOf F ^^^ 4294967295), 0 ≤ z ∧ z ≤ 255 := by
    have h1 : sumOf F < 4294967296 := crcOf_lt (natL_lt hF)
    have h2 : sumOf F ^^^ 4294967295 < 2 ^ 32 := Nat.xor_lt_two_pow (by omega) (by decide)
    intro z hz
    rcases List.mem_append.1 hz with hz | hz
    · exact le4_byte _ h1 z hz
    · exact le4_byte _ (by omega) z hz
theorem not32v {x : Nat} (h : x < 4294967296) : x ^^^ 4294967295 = 4294967295 - x := by
 have h1 : x ^^^ 4294967295 = (BitVec.ofNat 32 x ^^^ BitVec.allOnes 32).toNat := by
  rw [BitVec.toNat_xor, BitVec.toNat_ofNat, Nat.mod_eq_of_lt h]
  rfl
 rw [h1, BitVec.xor_allOnes, BitVec.toNat_not, BitVec.toNat_ofNat, Nat.mod_eq_of_lt h]
theorem le_bytes {x y : Nat} (h0 : x % 256 ≤ y % 256) (h1 : x / 256 % 256 ≤ y / 256 % 256) (h2 : x / 65536 % 256 ≤ y / 65536 % 256) (h3 : x / 16777216 ≤ y / 16777216) : x ≤ y := by omega
theorem le4_le {x y : Nat} (h : ∀ i, ((le4 x).getD i 0).toNat ≤ ((le4 y).getD i 0).toNat) : x ≤ y := by
 have g0 : ((x : Int) % 256).toNat ≤ ((y : Int) % 256).toNat := h 0
 have g1 : ((x : Int) / 256 % 256).toNat ≤ ((y : Int) / 256 % 256).toNat := h 1
 have g2 : ((x : Int) / 65536 % 256).toNat ≤ ((y : Int) / 65536 % 256).toNat := h 2
 have g3 : ((x : Int) / 16777216).toNat ≤ ((y : Int) / 16777216).toNat := h 3
 exact le_bytes (by omega) (by omega) (by omega) (by omega)
theorem getD_back (F G : List Int) (n i : Nat) (h : F.length = n) : (F ++ G).getD (n + i) 0 = G.getD i 0 := by
 simp [List.getD, List.getElem?_append_right (show F.length ≤ n + i by omega), h]
theorem getD_frontL (F G : List Int) (i : Nat) (h : i < F.length) : (F ++ G).getD i 0 = F.getD i 0 := by
 simp [List.getD, List.getElem?_append_left h]
theorem sub_le {x y : Int} (h : x.toNat &&& y.toNat = x.toNat) : x.toNat ≤ y.toNat := by
 rw [← h]; exact Nat.and_le_right
theorem epoB_sub {q r : Nat} (hq : q ≤ 4294967295) (hr : r ≤ 4294967295) (h : canN (epoB r) (epoB q) = true) : q = r := by
 have hx := canN_iff (epoB_byte hr) (epoB_byte hq)
 obtain ⟨-, hs⟩ := hx.1 h
 have bq : ∀ z ∈ [1, 0, 0, 0] ++ le4 q, 0 ≤ z ∧ z ≤ 255 := by
  intro z hz
  rcases List.mem_append.1 hz with hz | hz
  ·simp only [List.mem_cons, List.not_mem_nil, or_false] at hz
   rcases hz with rfl | rfl | rfl | rfl <;> decide
  ·exact le4_byte q (by omega) z hz
 have br : ∀ z ∈ [1, 0, 0, 0] ++ le4 r, 0 ≤ z ∧ z ≤ 255 := by
  intro z hz
  rcases List.mem_append.1 hz with hz | hz
  ·simp only [List.mem_cons, List.not_mem_nil, or_false] at hz
   rcases hz with rfl | rfl | rfl | rfl <;> decide
  ·exact le4_byte r (by omega) z hz
 have sq : sumOf ([1, 0, 0, 0] ++ le4 q) < 4294967296 := crcOf_lt (natL_lt bq)
 have sr : sumOf ([1, 0, 0, 0] ++ le4 r) < 4294967296 := crcOf_lt (natL_lt br)
 have key : sumOf ([1, 0, 0, 0] ++ le4 q) = sumOf ([1, 0, 0, 0] ++ le4 r) := by
  rw [epoB_eq hq, epoB_eq hr, not32v sq, not32v sr] at hs
  generalize sumOf ([1, 0, 0, 0] ++ le4 q) = S at *
  generalize sumOf ([1, 0, 0, 0] ++ le4 r) = R at *
  have lq : ([1, 0, 0, 0] ++ le4 q : List Int).length = 8 := rfl
  have lr : ([1, 0, 0, 0] ++ le4 r : List Int).length = 8 := rfl
  generalize ([1, 0, 0, 0] ++ le4 q : List Int) = Fq at *
  generalize ([1, 0, 0, 0] ++ le4 r : List Int) = Fr at *
  have g : ∀ i, ((Fq ++ (le4 S ++ le4 (4294967295 - S))).getD i 0).toNat ≤ ((Fr ++ (le4 R ++ le4 (4294967295 - R))).getD i 0).toNat := fun i => sub_le (hs i)
  have a1 : S ≤ R := le4_le fun i => by
   by_cases hi : i < 4
   ·have := g (8 + i)
    rwa [getD_back _ _ 8 i lq, getD_back _ _ 8 i lr, getD_frontL _ _ i (show i < (le4 S).length from hi), getD_frontL _ _ i (show i < (le4 R).length from hi)] at this
   ·have e : (le4 S).getD i 0 = 0 := by simp [List.getD, List.getElem?_eq_none (show (le4 S).length ≤ i by show 4 ≤ i; omega)]
    rw [e]; exact Nat.zero_le _
  have a2 : 4294967295 - S ≤ 4294967295 - R := le4_le fun i => by
   by_cases hi : i < 4
   ·have := g (8 + (4 + i))
    rwa [getD_back _ _ 8 (4 + i) lq, getD_back _ _ 8 (4 + i) lr, getD_back _ _ 4 i rfl, getD_back _ _ 4 i rfl] at this
   ·have e : (le4 (4294967295 - S)).getD i 0 = 0 := by simp [List.getD, List.getElem?_eq_none (show (le4 (4294967295 - S)).length ≤ i by show 4 ≤ i; omega)]
    rw [e]; exact Nat.zero_le _
  omega
 have key2 : crcRun 4294967295 (natL ([1, 0, 0, 0] ++ le4 q)) = crcRun 4294967295 (natL ([1, 0, 0, 0] ++ le4 r)) := by
  have := congrArg (· ^^^ 4294967295) key
  simpa [sumOf, crcOf, Nat.xor_assoc] using this
 have nq : natL ([1, 0, 0, 0] ++ le4 q) = [1, 0, 0, 0] ++ [q % 256, q / 256 % 256, q / 65536 % 256, q / 16777216] := by
  simp only [natL, le4, List.map_append, List.map_cons, List.map_nil]
  congr 1
 have nr : natL ([1, 0, 0, 0] ++ le4 r) = [1, 0, 0, 0] ++ [r % 256, r / 256 % 256, r / 65536 % 256, r / 16777216] := by
  simp only [natL, le4, List.map_append, List.map_cons, List.map_nil]
  congr 1
 rw [nq, nr, crcRun_append, crcRun_append] at key2
 obtain ⟨e1, e2, e3, e4⟩ := crcRun_four (by omega) (by omega) (by omega) (by omega) (by omega) (by omega) (by omega) (by omega) key2
 omega
theorem epoch_rise {zs : List Int} {q : Nat} (hz : ∀ z ∈ zs, 0 ≤ z ∧ z ≤ 255) (hq : q ≤ 4294967295) (hc : canN (zs.take 16) (epoB q) = true) (he : epochF zs ≠ 0) : zs.take 16 = epoB q ∧ epochF zs = q := by
 unfold epochF at he ⊢
 cases hg : getL zs with
 | none => rw [hg] at he; exact absurd rfl he
 | some r =>
  obtain ⟨k, s, b, n⟩ := r
  rw [hg] at he
  simp only at he ⊢
  split at he
  ·rename_i hk
   obtain ⟨hf, h1, -, -, h4, -⟩ := get_full hg
   have hb : b = [] := List.eq_nil_of_length_eq_zero hk.2
   subst hb
   obtain ⟨rfl, -⟩ := hk
   have hn : n = 16 := by rw [h1]; decide
   obtain ⟨r, rfl⟩ : ∃ r : Nat, s = r := ⟨s.toNat, by have := hf.2.2.1; omega⟩
   have hr : r ≤ 4294967295 := by have := hf.2.2.2.1; omega
   have h4 : zs.take 16 = epoB r := by rw [← show ((16 : Int)).toNat = 16 from rfl, ← hn]; exact h4
   rw [h4] at hc
   obtain rfl := epoB_sub hq hr hc
   exact ⟨h4, by simp⟩
  ·exact absurd rfl he
theorem epochF_epoB {zs : List Int} {q : Nat} (hq : q ≤ 4294967295) (h : zs.take 16 = epoB q) : epochF zs = q := by
 have hf : fitsR 1 (q : Int) ([] : List Int).length := ⟨by decide, by decide, by omega, by omega, by decide⟩
 have := get_put 1 (q : Int) [] (zs.drop 16) hf
 have e : putL 1 (q : Int) [] ++ zs.drop 16 = zs := by
  show epoB q ++ _ = _
  rw [← h, List.take_append_drop]
 rw [e] at this
 unfold epochF
 rw [this]
 simp
def Byt (zs : List Int) : Prop := ∀ z ∈ zs, 0 ≤ z ∧ z ≤ 255
def LowS (m : Nat) (zs : List Int) : Prop := ∀ us, Byt us → canN us zs = true → epochF us ≤ m
theorem LowS.self {m : Nat} {zs : List Int} (h : LowS m zs) (hz : Byt zs) : epochF zs ≤ m := h zs hz (canN_refl hz)
theorem LowS.mono {m k : Nat} {zs : List Int} (h : LowS m zs) (hk : m ≤ k) : LowS k zs := fun us h1 h2 => Int.le_trans (h us h1 h2) (by omega)
theorem LowS.up {m : Nat} {zs us : List Int} (h : LowS m zs) (hz : Byt zs) (hu : Byt us) (hc : canN us zs = true) : LowS m us := fun vs h1 h2 => h vs h1 (canN_trans h1 hu hz h2 hc)
theorem LowS.part {zs : List Int} {q : Nat} (hz : Byt zs) (hq : q ≤ 4294967295) (hc : canN (zs.take 16) (epoB q) = true) (hne : zs.take 16 ≠ epoB q) : LowS 0 zs := by
 intro us hu h
 have h1 := canN_take h 16
 have bt : ∀ l : List Int, Byt l → Byt (l.take 16) := fun l hl z hz => hl z (List.mem_of_mem_take hz)
 have h2 := canN_trans (bt _ hu) (bt _ hz) (epoB_byte hq) h1 hc
 by_cases he : epochF us = 0
 ·rw [he]; exact Int.le_refl _
 ·obtain ⟨e, -⟩ := epoch_rise hu hq h2 he
  rw [e] at h1
  exact absurd (canN_anti (bt _ hz) (epoB_byte hq) hc h1) hne
theorem LowS.whole {zs : List Int} {q : Nat} (hq : q ≤ 4294967295) (h : zs.take 16 = epoB q) : LowS q zs := by
 intro us hu hc
 have h1 := canN_take hc 16
 rw [h] at h1
 by_cases he : epochF us = 0
 ·rw [he]; omega
 ·rw [(epoch_rise hu hq h1 he).2]; exact Int.le_refl _
theorem tl163 (P : Prop) (h : P := by
 rw [if_neg (by rw [List.length_replicate]; exact h)]
 have g : ∀ i, i < n → (List.replicate n (255 : Int)).getD i 0 = 255 := fun i hi => by simp [List.getD, hi]
 rw [g 2 (by omega), g 3 (by omega)]
 have : sizeZ (255 + 255 * 256) = 0 := by decide
 simp only [this, true_or, if_true]) : P := h
theorem tl162 (P : Prop) (h : P := by
 unfold getL
 by_cases h : n < 16
 ·rw [if_pos (by rw [List.length_replicate]; exact h)]
 ·exact tl163 _) : P := h
theorem epochF_ff (n : Nat) : epochF (List.replicate n 255) = 0 := by
 have : getL (List.replicate n 255) = none := by
  exact tl162 _
 unfold epochF
 rw [this]
theorem LowS.blank (n : Nat) : LowS 0 (List.replicate n 255) := by
 intro us hu hc
 have e : us = List.replicate n 255 := by
  refine canN_anti hu (fun z hz => by rw [List.eq_of_mem_replicate hz]; decide) hc ?_
  have hl : us.length = n := by simp only [canN, decide_eq_true_eq] at hc; rw [hc.1, List.length_replicate]
  have := canN_ff us hu
  rwa [hl] at this
 rw [e, epochF_ff]
 exact Int.le_refl _
open Go.RowKit
structure Com where
  slot : Int
  ver : Nat
  fl : Nat
  len : Int
  me : List Int
structure Chk where
  slot : Int
  block : Int
  off : Int
  dn : Int
  id : List Int
  mid : List Int
structure St where
  c : Com
  has : Bool
  k : Chk
def com0 : Com := ⟨0, 0, 0, 0, List.replicate 64 0⟩
def chk0 : Chk := ⟨0, 0, 0, 0, List.replicate 8 0, []⟩
def st0 : St := ⟨⟨-1, 0, 0, 0, List.replicate 64 0⟩, false, chk0⟩
def Com.may (c : Com) : Prop := 0 ≤ c.slot ∧ c.slot ≤ 1 ∧ 0 ≤ c.len ∧ c.len ≤ 2147483647
instance (c : Com) : Decidable c.may := inferInstanceAs (Decidable (_ ∧ _ ∧ _ ∧ _))
def comL (c : Com) : List Int := if c.may then lowL 8 c.slot.toNat ++ (lowL 8 c.ver ++ (lowL 8 c.fl ++ (lowL 8 c.len.toNat ++ c.me))) else []
def part8 (b : List Int) (i : Nat) : Nat := numN ((b.drop i).take 8)
def smallN (n : Nat) : Int := if n ≤ 2147483647 then n else -1
def comP (b : List Int) : Com := ⟨b.getD 0 0, part8 b 8, part8 b 16, smallN (part8 b 24), b.drop 32⟩
def getCom (b : List Int) : Com × Bool := if b.length = 96 ∧ comL (comP b) = b then (comP b, true) else (com0, false)
def bigN (zs : List Int) : Nat := zs.foldl (fun x z => x * 256 + z.toNat) 0
def midN (m : List Int) : Nat := bigN ((m.drop 64).take 8)
def midOk (m : List Int) : Bool := decide (m.length = 200) && (decide (midN m ≤ 1152921504606846976) && (m.drop (72 + midN m % 128)).all (· == 0))
def Chk.may (c : Chk) : Prop := (0 ≤ c.slot ∧ c.slot ≤ 1 ∧ 0 ≤ c.block ∧ c.block ≤ 16) ∧ (0 ≤ c.off ∧ c.off ≤ 2147483647 ∧ 0 ≤ c.dn ∧ c.dn ≤ 2147483647) ∧ midOk c.mid = true
instance (c : Chk) : Decidable c.may := inferInstanceAs (Decidable ((_ ∧ _ ∧ _ ∧ _) ∧ (_ ∧ _ ∧ _ ∧ _) ∧ _))
def chkL (c : Chk) : List Int := if c.may then lowL 8 (c.slot.toNat + 256 * c.block.toNat) ++ (lowL 8 c.off.toNat ++ (lowL 8 c.dn.toNat ++ (c.id ++ c.mid))) else []
def chkP (b : List Int) : Chk := ⟨b.getD 0 0, b.getD 1 0, smallN (part8 b 8), smallN (part8 b 16), (b.drop 24).take 8, b.drop 32⟩
def getChk (b : List Int) : Chk × Bool := if b.length = 232 ∧ chkL (chkP b) = b then (chkP b, true) else (chk0, false)
def stepS (s : St) (r : Rec) : St :=
  if r.k = 2 then (if (getCom r.b).2 = true then ⟨{ (getCom r.b).1 with fl := max (getCom r.b).1.fl s.c.fl }, false, chk0⟩ else s)
  else if r.k = 3 then (if (getChk r.b).2 = true then { s with has := true, k := (getChk r.b).1 } else s)
  else if r.k = 4 then { s with has := false, k := chk0 } else s
def foldS (l : List Rec) : St := l.foldl stepS st0
def recsS (s : St) : List Rec :=
  (if 0 < (comL s.c).length then [⟨2, 0, comL s.c⟩] else []) ++ (if s.has = true ∧ 0 < (chkL s.k).length then [⟨3, 0, chkL s.k⟩] else [])
structure Com.ok (c : Com) : Prop where
  v : c.ver < 18446744073709551616
  f : c.fl < 18446744073709551616
  ml : c.me.length = 64
  mb : Byt c.me
structure Chk.ok (c : Chk) : Prop where
  il : c.id.length = 8
  ib : Byt c.id
  mb : Byt c.mid
theorem comL_len {c : Com} (h : c.may) : (comL c).length = 32 + c.me.length := by
 unfold comL
 rw [if_pos h]
 simp only [List.length_append, lowL_len]
 omega
theorem drop_app {α : Type} {x y : List α} {n : Nat} (k : Nat) (h : x.length = k) (hn : k ≤ n) : (x ++ y).drop n = y.drop (n - k) := by
 rw [List.drop_append, List.drop_eq_nil_of_le (by omega), List.nil_append, h]
theorem take_app {α : Type} {x y : List α} {n : Nat} (h : x.length = n) : (x ++ y).take n = x := List.take_left' h
theorem lowL_head (n : Nat) (y : List Int) : (lowL 8 n ++ y).getD 0 0 = ((n % 256 : Nat) : Int) := by rfl
theorem lowL_next (n : Nat) (y : List Int) : (lowL 8 n ++ y).getD 1 0 = ((n / 256 % 256 : Nat) : Int) := by rfl
theorem pow8 : (256 : Nat) ^ 8 = 18446744073709551616 := by decide
theorem smallN_len {n : Int} (h : 0 ≤ n ∧ n ≤ 2147483647) : smallN n.toNat = n := by unfold smallN; rw [if_pos (by omega)]; omega
theorem comP_comL {c : Com} (h : c.may) (o : c.ok) : comP (comL c) = c := by
 obtain ⟨h1, h2, h3, h4⟩ := h
 have e : comL c = lowL 8 c.slot.toNat ++ (lowL 8 c.ver ++ (lowL 8 c.fl ++ (lowL 8 c.len.toNat ++ c.me))) := if_pos ⟨h1, h2, h3, h4⟩
 have ll : ∀ n, (lowL 8 n).length = 8 := lowL_len 8
 have o1 := o.v
 have o2 := o.f
 obtain ⟨b, hb⟩ : ∃ b, comL c = b := ⟨_, rfl⟩
 have d8 : b.drop 8 = lowL 8 c.ver ++ (lowL 8 c.fl ++ (lowL 8 c.len.toNat ++ c.me)) := by rw [← hb, e]; exact drop_app 8 (ll _) (by decide)
 have d16 : b.drop 16 = lowL 8 c.fl ++ (lowL 8 c.len.toNat ++ c.me) := by rw [show 16 = 8 + 8 from rfl, ← List.drop_drop, d8]; exact drop_app 8 (ll _) (by decide)
 have d24 : b.drop 24 = lowL 8 c.len.toNat ++ c.me := by rw [show 24 = 16 + 8 from rfl, ← List.drop_drop, d16]; exact drop_app 8 (ll _) (by decide)
 have d32 : b.drop 32 = c.me := by rw [show 32 = 24 + 8 from rfl, ← List.drop_drop, d24]; exact drop_app 8 (ll _) (by decide)
 have g0 : b.getD 0 0 = c.slot := by rw [← hb, e, lowL_head]; omega
 unfold comP part8
 rw [hb, g0, d8, d16, d24, d32, take_app (ll _), take_app (ll _), take_app (ll _), numN_low 8 _ (by rw [pow8]; exact o1), numN_low 8 _ (by rw [pow8]; exact o2), numN_low 8 _ (by rw [pow8]; omega), smallN_len ⟨h3, h4⟩]
theorem getCom_comL {c : Com} (h : c.may) (o : c.ok) : getCom (comL c) = (c, true) := by
 unfold getCom
 rw [comP_comL h o, if_pos ⟨by rw [comL_len h, o.ml], rfl⟩]
theorem part8_lt {b : List Int} (hb : Byt b) (i : Nat) : part8 b i < 18446744073709551616 := by
 have h1 := numN_lt ((b.drop i).take 8) (fun z hz => hb z (List.mem_of_mem_drop (List.mem_of_mem_take hz)))
 have h2 : ((b.drop i).take 8).length ≤ 8 := List.length_take_le _ _
 have h3 : (256 : Nat) ^ ((b.drop i).take 8).length ≤ 256 ^ 8 := Nat.pow_le_pow_right (by decide) h2
 rw [pow8] at h3
 unfold part8
 omega
theorem comP_ok {b : List Int} (hb : Byt b) (hl : b.length = 96) : (comP b).ok :=
  ⟨part8_lt hb 8, part8_lt hb 16, by show (b.drop 32).length = 64; rw [List.length_drop, hl], fun z hz => hb z (List.mem_of_mem_drop hz)⟩
theorem getCom_ok {b : List Int} (hb : Byt b) (h : (getCom b).2 = true) : (getCom b).1.may ∧ (getCom b).1.ok ∧ comL (getCom b).1 = b ∧ getCom b = (comP b, true) := by
 unfold getCom at h ⊢
 split at h
 ·rename_i h1
  rw [if_pos h1]
  refine ⟨?_, comP_ok hb h1.1, h1.2, rfl⟩
  have h2 := h1.2
  unfold comL at h2
  split at h2
  ·assumption
  ·rw [← h2] at h1; cases h1.1
 ·cases h
theorem com0_ok : com0.ok := ⟨by decide, by decide, by decide, by intro z hz; rw [List.eq_of_mem_replicate hz]; decide⟩
theorem chk0_ok : chk0.ok := ⟨by decide, by intro z hz; rw [List.eq_of_mem_replicate hz]; decide, fun z hz => by cases hz⟩
theorem midOk_len {m : List Int} (h : midOk m = true) : m.length = 200 := by
 unfold midOk at h
 simp only [Bool.and_eq_true, decide_eq_true_eq] at h
 exact h.1
theorem chkL_len {c : Chk} (h : c.may) (o : c.ok) : (chkL c).length = 232 := by
 unfold chkL
 rw [if_pos h]
 simp only [List.length_append, lowL_len, o.il, midOk_len h.2.2]
theorem chkP_chkL {c : Chk} (h : c.may) (o : c.ok) : chkP (chkL c) = c := by
 obtain ⟨⟨h1, h2, h3, h4⟩, ⟨h5, h6, h7, h8⟩, h9⟩ := id h
 have e : chkL c = lowL 8 (c.slot.toNat + 256 * c.block.toNat) ++ (lowL 8 c.off.toNat ++ (lowL 8 c.dn.toNat ++ (c.id ++ c.mid))) := if_pos h
 have ll : ∀ n, (lowL 8 n).length = 8 := lowL_len 8
 obtain ⟨b, hb⟩ : ∃ b, chkL c = b := ⟨_, rfl⟩
 have d8 : b.drop 8 = lowL 8 c.off.toNat ++ (lowL 8 c.dn.toNat ++ (c.id ++ c.mid)) := by rw [← hb, e]; exact drop_app 8 (ll _) (by decide)
 have d16 : b.drop 16 = lowL 8 c.dn.toNat ++ (c.id ++ c.mid) := by rw [show 16 = 8 + 8 from rfl, ← List.drop_drop, d8]; exact drop_app 8 (ll _) (by decide)
 have d24 : b.drop 24 = c.id ++ c.mid := by rw [show 24 = 16 + 8 from rfl, ← List.drop_drop, d16]; exact drop_app 8 (ll _) (by decide)
 have d32 : b.drop 32 = c.mid := by rw [show 32 = 24 + 8 from rfl, ← List.drop_drop, d24]; exact drop_app 8 o.il (by decide)
 have g0 : b.getD 0 0 = c.slot := by rw [← hb, e, lowL_head]; omega
 have g1 : b.getD 1 0 = c.block := by rw [← hb, e, lowL_next]; omega
 unfold chkP part8
 rw [hb, g0, g1, d8, d16, d24, d32, take_app (ll _), take_app (ll _), take_app o.il, numN_low 8 _ (by rw [pow8]; omega), numN_low 8 _ (by rw [pow8]; omega), smallN_len ⟨h5, h6⟩, smallN_len ⟨h7, h8⟩]
theorem getChk_chkL {c : Chk} (h : c.may) (o : c.ok) : getChk (chkL c) = (c, true) := by
 unfold getChk
 rw [chkP_chkL h o, if_pos ⟨chkL_len h o, rfl⟩]
theorem chkP_ok {b : List Int} (hb : Byt b) (hl : b.length = 232) : (chkP b).ok :=
  ⟨by show ((b.drop 24).take 8).length = 8; rw [List.length_take, List.length_drop, hl]; rfl, fun z hz => hb z (List.mem_of_mem_drop (List.mem_of_mem_take hz)), fun z hz => hb z (List.mem_of_mem_drop hz)⟩
theorem getChk_ok {b : List Int} (hb : Byt b) (h : (getChk b).2 = true) : (getChk b).1.may ∧ (getChk b).1.ok ∧ chkL (getChk b).1 = b ∧ getChk b = (chkP b, true) := by
 unfold getChk at h ⊢
 split at h
 ·rename_i h1
  rw [if_pos h1]
  refine ⟨?_, chkP_ok hb h1.1, h1.2, rfl⟩
  have h2 := h1.2
  unfold chkL at h2
  split at h2
  ·assumption
  ·rw [← h2] at h1; cases h1.1
 ·cases h
structure St.inv (s : St) : Prop where
  c : s.c = st0.c ∨ s.c.may ∧ s.c.ok
  k : s.has = true → s.k.may ∧ s.k.ok
  n : s.has = false → s.k = chk0
theorem st0_inv : st0.inv := ⟨.inl rfl, (fun h => by cases h), fun _ => rfl⟩
theorem St.inv.co {s : St} (h : s.inv) : s.c.ok := h.c.elim (fun e => by rw [e]; exact ⟨by decide, by decide, by decide, com0_ok.mb⟩) (·.2)
theorem St.inv.ko {s : St} (h : s.inv) : s.k.ok := by
 cases e : s.has with
 | true => exact (h.k e).2
 | false => rw [h.n e]; exact chk0_ok
theorem stepS_inv {s : St} {r : Rec} (h : s.inv) (hb : Byt r.b) : (stepS s r).inv := by
 unfold stepS
 split
 ·split
  ·rename_i h2
   obtain ⟨a1, a2, -, -⟩ := getCom_ok hb h2
   have := h.co.f
   refine ⟨.inr ⟨a1, ⟨a2.v, ?_, a2.ml, a2.mb⟩⟩, (fun e => by cases e), fun _ => rfl⟩
   have := a2.f
   show max _ _ < _
   omega
  ·exact h
 ·split
  ·split
   ·rename_i h2
    obtain ⟨a1, a2, -, -⟩ := getChk_ok hb h2
    exact ⟨h.c, fun _ => ⟨a1, a2⟩, fun e => by cases e⟩
   ·exact h
  ·split
   ·exact ⟨h.c, (fun e => by cases e), fun _ => rfl⟩
   ·exact h
theorem foldl_inv : ∀ (l : List Rec) {s : St}, s.inv → (∀ r ∈ l, Byt r.b) → (l.foldl stepS s).inv
  | [], _, h, _ => h
  | r :: l, _, h, hb => foldl_inv l (stepS_inv h (hb r List.mem_cons_self)) (fun x hx => hb x (List.mem_cons_of_mem _ hx))
theorem foldS_inv {l : List Rec} (hb : ∀ r ∈ l, Byt r.b) : (foldS l).inv := foldl_inv l st0_inv hb
theorem foldS_append (l m : List Rec) : foldS (l ++ m) = m.foldl stepS (foldS l) := List.foldl_append
theorem comL_pos {c : Com} : 0 < (comL c).length ↔ c.may := by
 constructor
 ·intro h
  unfold comL at h
  split at h
  ·assumption
  ·cases h
 ·intro h
  rw [comL_len h]
  omega
theorem chkL_pos {c : Chk} : 0 < (chkL c).length ↔ c.may := by
 constructor
 ·intro h
  unfold chkL at h
  split at h
  ·assumption
  ·cases h
 ·intro h
  unfold chkL
  rw [if_pos h, List.length_append, lowL_len]
  omega
theorem recsS_len (s : St) : (recsS s).length ≤ 2 := by
 unfold recsS
 rw [List.length_append]
 split <;> split <;> simp
theorem fold_recs {s : St} (h : s.inv) : foldS (recsS s) = s := by
 have h2 : ∀ (t : St), t.c = s.c → t.has = false → t.k = chk0 → (if s.has = true ∧ 0 < (chkL s.k).length then [⟨3, 0, chkL s.k⟩] else ([] : List Rec)).foldl stepS t = s := by
  intro t t1 t2 t3
  cases e : s.has with
  | true =>
   obtain ⟨a1, a2⟩ := h.k e
   rw [if_pos ⟨rfl, chkL_pos.2 a1⟩]
   rw [List.foldl_cons, List.foldl_nil]
   have hg := getChk_chkL a1 a2
   unfold stepS
   simp only [show ¬ ((3 : Int) = 2) by decide, if_false, if_true, hg]
   cases t; cases s; simp_all
  | false =>
   rw [if_neg (by simp)]
   have := h.n e
   cases t; cases s; simp_all
 rw [recsS, foldS, List.foldl_append]
 apply h2
 ·rcases h.c with e | ⟨a1, a2⟩
  ·rw [if_neg (by rw [comL_pos, e]; intro hm; exact absurd hm.1 (by decide)), e]; rfl
  ·rw [if_pos (comL_pos.2 a1)]
   have hg := getCom_comL a1 a2
   rw [List.foldl_cons, List.foldl_nil]
   unfold stepS
   simp only [if_true, hg, show st0.c.fl = 0 from rfl, Nat.max_zero]
 ·split
  ·rename_i h1
   rw [List.foldl_cons, List.foldl_nil]
   unfold stepS
   simp only [if_true]
   split <;> rfl
  ·rfl
 ·split
  ·rw [List.foldl_cons, List.foldl_nil]
   unfold stepS
   simp only [if_true]
   split <;> rfl
  ·rfl
theorem stepS_com {s : St} {c : Com} (h : c.may) (o : c.ok) (q : Int) : stepS s ⟨2, q, comL c⟩ = ⟨{ c with fl := max c.fl s.c.fl }, false, chk0⟩ := by
 unfold stepS
 simp only [if_true, getCom_comL h o]
open Go.RowKit
theorem shr8 (x k : Nat) : (x : Int) / 2 ^ (8 * k) % 256 = ((x / 256 ^ k % 256 : Nat) : Int) := by
 rw [Int.natCast_emod, Int.natCast_ediv, Int.natCast_pow, Int.pow_mul]
 rfl
set_option maxRecDepth 100000 in
set_option maxHeartbeats 800000 in
theorem lgnumber_any (x : Nat) (hx : x < 18446744073709551616) (w : World) : Calls Tryz.prog 58 #[.int .u64 x] w (Cloned w (lowL 8 x)) := by
 go_enter Tryz.func58, Tryz.ntmps58
 go_wp2
 go_loopw [3, 5] (fun ov iv wr => ∃ k : Nat, k ≤ 8 ∧ iv = .int .i64 (k : Int) ∧ Own wr w.heap.size ov (lowL k x) ∧ Keeps None w wr) (fun _ iv _ => 8 - (intOf iv).toNat)
 case atStart => exact ⟨0, Nat.zero_le _, rfl, Own.nil _ _, Keeps.refl _ _⟩
 case round =>
  obtain ⟨k, hk, rfl, ho, hkp⟩ := hrel
  obtain ⟨A0, c0, rfl, -, -⟩ := ho.shape
  rw [lowL_len] at ho ⊢
  have HO := Lib.hid ho
  have HK := Lib.hid hkp
  clear ho hkp
  by_cases hlt : k < 8
  ·go_wp2_with (at_builtin; refine Hid.out ?_)
   refine Lib.hid ?_
   rw [shr8]
   refine wpList_append_bs (HO.out.alloc _) (Bs.oneAt _ _ rfl ((x / 256 ^ k % 256 : Nat) : Int) (by omega)) (by rw [lowL_len]; omega) (Nat.le_trans HK.out.size (by simp)) (by rfl) (by rfl) (by rfl) (by rfl) (by rfl) ?_
   intro v4 w4 o4 k4
   have H4 := Lib.hid (show Own w4 w.heap.size v4 (lowL (k + 1) x) from by rw [lowL_snoc]; exact o4)
   have K4 := Lib.hid ((HK.out.alloc (.cells #[.int .u8 ((x / 256 ^ k % 256 : Nat) : Int)] 5)).trans k4 (T := None) (fun _ h => h) (fun i hi e => absurd e ((show Own wr w.heap.size (.slice A0 k c0) (lowL k x) from HO.out).notBelow hi)))
   clear o4 k4
   go_wp2
   go_roundw
   case rel => exact ⟨k + 1, by omega, by go_num, H4.out, K4.out⟩
   case measure => simp [intOf]; omega
  ·obtain rfl : k = 8 := by omega
   go_wp2
   go_ret
   exact ⟨_, rfl, HO.out, HK.out⟩
theorem numN_snoc : ∀ (zs : List Int) (z : Int), numN (zs ++ [z]) = numN zs + z.toNat * 256 ^ zs.length
  | [], z => by simp [numN]
  | y :: zs, z => by
    simp only [List.cons_append, numN, numN_snoc zs z, List.length_cons, Nat.pow_succ]
    rw [Nat.mul_add, Nat.mul_comm 256 (z.toNat * _), Nat.mul_assoc]
    omega
theorem numN_take (zs : List Int) (k : Nat) (hk : k < zs.length) : numN (zs.take (k + 1)) = numN (zs.take k) + (zs.getD k 0).toNat * 256 ^ k := by
 rw [← take_snoc zs k hk, numN_snoc, List.length_take, Nat.min_eq_left (by omega), getD_get 0 hk]
theorem or8 {zs : List Int} (hb : ∀ z ∈ zs, 0 ≤ z ∧ z ≤ 255) {k : Nat} (hk : k < zs.length) (h8 : k < 8) :
    bits .or .u64 ((numN (zs.take k) : Nat) : Int) (IntKind.u64.wrap (zs.getD k 0 * 2 ^ (8 * k))) = ((numN (zs.take (k + 1)) : Nat) : Int) := by
 have h1 := numN_lt (zs.take k) (fun z hz => hb z (List.mem_of_mem_take hz))
 rw [List.length_take, Nat.min_eq_left (by omega)] at h1
 have hz := hb (zs.getD k 0) (getD_mem 0 hk)
 obtain ⟨c, hc⟩ : ∃ c : Nat, zs.getD k 0 = c := ⟨(zs.getD k 0).toNat, by omega⟩
 have e := numN_take zs k hk
 rw [hc] at e hz ⊢
 have p8 : (256 : Nat) ^ k ≤ 256 ^ 7 := Nat.pow_le_pow_right (by decide) (by omega)
 have p7 : (256 : Nat) ^ 7 = 72057594037927936 := by decide
 have hc2 : c * 256 ^ k < 18446744073709551616 := by
  have : c * 256 ^ k ≤ 255 * 256 ^ k := Nat.mul_le_mul_right _ (by omega)
  omega
 have e2 : (c : Int) * 2 ^ (8 * k) = ((c * 256 ^ k : Nat) : Int) := by
  rw [Int.natCast_mul, Int.natCast_pow, Int.pow_mul]
  rfl
 have e3 : IntKind.u64.wrap ((c * 256 ^ k : Nat) : Int) = ((c * 256 ^ k : Nat) : Int) := by
  generalize c * 256 ^ k = y at hc2
  simp [IntKind.wrap, IntKind.bits, IntKind.signed]
  omega
 rw [e2, e3, u64_or_nat _ _ (by omega) hc2, e]
 congr 1
 have h2 : numN (zs.take k) < 2 ^ (8 * k) := by rw [Nat.pow_mul]; exact h1
 have h3 := Nat.shiftLeft_add_eq_or_of_lt h2 c
 rw [Nat.shiftLeft_eq, Nat.pow_mul] at h3
 rw [Nat.or_comm, ← h3]
 show c * 256 ^ k + _ = _
 simp only [Int.toNat_natCast]
 omega
theorem tl164 (P : Prop) (h : P := by
 rw [hz1] at OR
 go_wp2
 go_round
 case rel => exact ⟨k + 1, by omega, by go_num, rfl⟩
 case measure => simp [intOf]; omega) : P := h
set_option maxRecDepth 100000 in
set_option maxHeartbeats 800000 in
theorem lgvalue_any (A : Option Addr) (n cap : Nat) (zs : List Int) (w : World) (h : Bs w A n cap zs) (hn : 8 ≤ n) : Calls Tryz.prog 92 #[.slice A n cap] w fun e w' => e = .returned (.int .u64 ((numN (zs.take 8) : Nat) : Int)) ∧ w = w' := by
 have hle := h.le
 have hmax := h.max
 have HL := Lib.hid h.len
 have HB := Lib.hid h
 obtain ⟨gb, off, rfl, hgb, -⟩ := h.at_ (by omega)
 clear h
 go_enter Tryz.func92, Tryz.ntmps92
 go_wp2
 go_loop [3, 9] (fun xv iv => ∃ k : Nat, k ≤ 8 ∧ iv = .int .i64 (k : Int) ∧ xv = .int .u64 ((numN (zs.take k) : Nat) : Int)) (fun _ iv => 8 - (intOf iv).toNat)
 case atStart => exact ⟨0, Nat.zero_le _, rfl, rfl⟩
 case round =>
  obtain ⟨k, hk, rfl, rfl⟩ := hrel
  by_cases hlt : k < 8
  ·obtain ⟨bl, of1, z, e1, hz1, hza, hzb, hc1⟩ := HB.out.get (i := k) (by omega)
   cases e1
   have OR := or8 HB.out.byte (k := k) (by rw [HL.out]; omega) hlt
   exact tl164 _
  ·obtain rfl : k = 8 := by omega
   go_wp2
   go_ret
   exact ⟨rfl, rfl⟩
theorem tl165 (P : Prop) (h : P := by
 go_enter Tryz.func93, Tryz.ntmps93
 go_wp2_with fail
 refine V.out.mono ?_
 rintro e w1 ⟨rfl, rfl⟩
 go_wp2
 go_ret
 exact ⟨rfl, rfl⟩) : P := h
set_option maxRecDepth 100000 in
theorem lgsmall_any (A : Option Addr) (n cap : Nat) (zs : List Int) (w : World) (h : Bs w A n cap zs) (hn : 8 ≤ n) : Calls Tryz.prog 93 #[.slice A n cap] w fun e w' => e = .returned (.int .i64 (smallN (numN (zs.take 8)))) ∧ w = w' := by
 have V := Lib.hid (lgvalue_any A n cap zs w h hn)
 have hb := numN_lt (zs.take 8) (fun z hz => h.byte z (List.mem_of_mem_take hz))
 have h8 : (256 : Nat) ^ (zs.take 8).length ≤ 18446744073709551616 := by
  rw [← pow8]
  exact Nat.pow_le_pow_right (by decide) (List.length_take_le _ _)
 clear h
 generalize numN (zs.take 8) = x at *
 by_cases hx : x ≤ 2147483647
 ·have d : decide ((x : Int) ≤ 2147483647) = true := decide_eq_true (by omega)
  rw [show smallN x = x from if_pos hx]
  exact tl165 _
 ·have d : decide ((x : Int) ≤ 2147483647) = false := decide_eq_false (by omega)
  rw [show smallN x = -1 from if_neg hx]
  exact tl165 _
set_option maxRecDepth 100000 in
theorem lglength_any (n : Int) (w : World) : Calls Tryz.prog 56 #[.int .i64 n] w fun e w' => e = .returned (.bool (decide (0 ≤ n ∧ n ≤ 2147483647))) ∧ w = w' := by
 go_enter Tryz.func56, Tryz.ntmps56
 by_cases h1 : 0 ≤ n
 ·have d1 : decide (0 ≤ n) = true := decide_eq_true h1
  by_cases h2 : n ≤ 2147483647
  ·have d2 : decide (n ≤ 2147483647) = true := decide_eq_true h2
   rw [decide_eq_true (show 0 ≤ n ∧ n ≤ 2147483647 from ⟨h1, h2⟩)]
   go_wp2
   go_ret
   exact ⟨rfl, rfl⟩
  ·have d2 : decide (n ≤ 2147483647) = false := decide_eq_false h2
   rw [decide_eq_false (show ¬ (0 ≤ n ∧ n ≤ 2147483647) from fun h => h2 h.2)]
   go_wp2
   go_ret
   exact ⟨rfl, rfl⟩
 ·have d1 : decide (0 ≤ n) = false := decide_eq_false h1
  rw [decide_eq_false (show ¬ (0 ≤ n ∧ n ≤ 2147483647) from fun h => h1 h.1)]
  go_wp2
  go_ret
  exact ⟨rfl, rfl⟩
end Go.Proofs.YtobgbilanibodaaGreat
