
/- The walk of journal's Open. -/
import Derived.Test.YtfldgaiiniknpaaLBkXJn3
namespace Go.Proofs.Ytfldgaiiniknpaa
open Go.RowKit

def sec (s : FS) (k : Nat) : List Int := (s.b.drop (1024 * k)).take 1024
/-- Which sector counts: its epoch, its number. -/
def selF (s : FS) : Nat → Nat × Int
  | 0 => (0, -1)
  | k + 1 => if ((selF s k).1 : Int) < epochF (sec s k) then ((epochF (sec s k)).toNat, (k : Int)) else selF s k
def jnone (e : Nat) (c : Int) : JS := ⟨[], e, c, 0, false, 0⟩
def openS (s : FS) : JS :=
  if (selF s 2).2 = -1 then jnone (selF s 2).1 (selF s 2).2
  else { jnone (selF s 2).1 (selF s 2).2 with l := (parseF 64 (sec s (selF s 2).2.toNat) 16).1, used := (parseF 64 (sec s (selF s 2).2.toNat) 16).2, torn := !blankB ((sec s (selF s 2).2.toNat).drop (parseF 64 (sec s (selF s 2).2.toNat) 16).2) }
theorem selF_cur (s : FS) : ∀ k, (selF s k).2 = -1 ∨ ∃ i : Nat, i < k ∧ (selF s k).2 = i
  | 0 => .inl rfl
  | k + 1 => by
    unfold selF
    split
    · exact .inr ⟨k, Nat.lt_succ_self _, rfl⟩
    · rcases selF_cur s k with h | ⟨i, hi, h⟩
      · exact .inl h
      · exact .inr ⟨i, by omega, h⟩
theorem sec_len {s : FS} {k : Nat} (h : 1024 * k + 1024 ≤ s.b.length) : (sec s k).length = 1024 := by
  unfold sec; rw [List.length_take, List.length_drop]; omega
theorem gread_sec {s : FS} (hd : s.dark = false) (hn : 2048 ≤ s.b.length) {k : Nat} (hk : k < 2) : s.gread 0 2 ((k : Int) * 1024) 1024 = (sec s k, 0) := by
  have h1 : withinB ((k : Int) * 1024) 1024 (1024 * 2 : Nat) = true := decide_eq_true (by omega)
  have h2 : withinB ((1024 * 0 : Nat) + (k : Int) * 1024) 1024 s.b.length = true := decide_eq_true (by omega)
  unfold FS.gread FS.readF
  rw [if_neg (by rw [hd]; decide), if_pos h1, if_neg (by rw [hd]; decide)]
  have e : (1024 * ((0 : Nat) : Int) + (k : Int) * 1024) = ((1024 * 0 : Nat) + (k : Int) * 1024) := by omega
  rw [e, if_pos h2]
  unfold sec
  congr 2
  congr 1
  omega
set_option maxRecDepth 100000 in
theorem jopen_no (p : Option Addr) (first count : Nat) (hc : count ≤ 1000000) (h2 : count ≠ 2) (w : World) : Calls Try.prog 57 #[.agg #[.pointer p, .int .i64 first, .int .i64 count]] w (Pure (.tuple #[.pointer none, .int .i64 1]) w) := by
  have SZ := Lib.hid (fun w => gsize_any p first count hc w)
  have e1 : ((1024 * count : Nat) : Int) ≠ 2048 := by omega
  obtain ⟨N, hN⟩ : ∃ N, 1024 * count = N := ⟨_, rfl⟩
  rw [hN] at SZ e1
  have e2 : ((N : Int) != 2048) = true := by simpa using e1
  have e3 : ((N : Int) == 2048) = false := by simpa using e1
  have e4 : (N == 2048) = false := by simp; omega
  clear hN
  go_enter Try.func57, Try.ntmps57
  go_wp2_with fail
  refine (SZ.out _).mono ?_
  rintro e w1 ⟨rfl, k1⟩
  go_wp2
  go_ret2
  exact ⟨rfl, ((Keeps.refl None w).alloc _).trans k1 (fun _ h => h) (fun _ _ h => h)⟩
set_option maxRecDepth 100000 in
set_option maxHeartbeats 3200000 in
theorem jopen_yes (B : Nat) (L : FL) (s : FS) (q : Nat) (w : World) (h : FAt w B L s) (hq : L.bf = q) (hd : s.dark = false) (hn : 2 ≤ L.n) :
    Calls Try.prog 57 #[.agg #[.pointer (some ⟨q, 0, none⟩), .int .i64 0, .int .i64 2]] w fun e w' => ∃ X : JX, e = .returned (.tuple #[.pointer (some ⟨X.jb, 0, none⟩), .int .i64 0]) ∧ JAt w' B q X s (openS s) ∧ X.L = L ∧ Keeps None w w' ∧ ∀ k, X.S k → L.O k ∨ w.heap.size ≤ k := by
  have hbl : 2048 ≤ s.b.length := by have := h.bl; have := h.nN; omega
  have SZ := Lib.hid (fun w => gsize_any (some ⟨q, 0, none⟩) 0 2 (by decide) w)
  have RD : Hid (∀ (k : Nat) (w' : World), k < 2 → Keeps None w w' → Calls Try.prog 62 #[.agg #[.pointer (some ⟨q, 0, none⟩), .int .i64 0, .int .i64 2], .int .i64 ((k : Int) * 1024), .int .i64 1024] w' (ReadTold w' (sec s k, 0))) := fun k w' hk hkp => by
    have := gread_any B L s q 0 2 ((k : Int) * 1024) 1024 w' (h.later hkp) hq (by decide)
    rw [gread_sec hd hbl hk] at this
    exact this
  have BL : Hid (∀ k, k < 2 → (sec s k).length = 1024) := fun k hk => sec_len (by omega)
  have HF := Lib.hid h
  have HB : Hid (B ≤ w.heap.size) := by have h1 := h.low L.bf (.inl (.inl rfl)); have h2 := h.lt L.bf (.inl (.inl rfl)); show B ≤ _; omega
  clear h
  go_enter Try.func57, Try.ntmps57
  go_wp2_with fail
  refine (SZ.out _).mono ?_
  rintro e w1 ⟨rfl, k1⟩
  have K1 := Lib.hid (((Keeps.refl None w).alloc (.cells #[.pointer (some ⟨q, 0, none⟩), .int .i64 0, .int .i64 2] 84)).trans k1 (T := None) (fun _ h => h) (fun _ _ h => h))
  have R1 := Lib.hid (k1.blk (Blk.new w [.pointer (some ⟨q, 0, none⟩), .int .i64 0, .int .i64 2] 84) (fun h => h))
  have y0 := R1.out.cellD 0 _ rfl
  have y1 := R1.out.cellD 1 _ rfl
  have y2 := R1.out.cellD 2 _ rfl
  clear k1
  go_wp2
  obtain ⟨w2, hw2⟩ : ∃ x, w1.alloc (.cells #[.pointer (some ⟨q, 0, none⟩), .int .i64 0, .int .i64 2, .slice none 0 0, .int .i64 0, .int .i64 (-1), .int .i64 0, .bool false, .int .i64 0] 108) = x := ⟨_, rfl⟩
  obtain ⟨jb, hjb⟩ : ∃ x, w1.heap.size = x := ⟨_, rfl⟩
  have K2 : Hid (Keeps None w w2) := by show Keeps _ _ _; rw [← hw2]; exact K1.out.alloc _
  have R2 : Hid (Blk w2 w.heap.size [.pointer (some ⟨q, 0, none⟩), .int .i64 0, .int .i64 2] 84) := by show Blk _ _ _ _; rw [← hw2]; exact R1.out.alloc _
  have JBG : Hid (w.heap.size < jb) := by show _ < _; rw [← hjb]; exact R1.out.lt
  have J2 : Hid (JAt w2 B q ⟨L, jb, .slice none 0 0, []⟩ s (jnone 0 (-1))) := by
    refine ⟨HF.out.later K2.out, hq, ?_, OwnR.nil _ _, Bds.nil _ _, rfl, fun hO => ?_, Nat.le_trans HB.out (Nat.le_of_lt JBG.out), fun b e => by cases e⟩
    · show Blk w2 jb _ _
      rw [← hw2, ← hjb]
      exact Blk.new _ [_, _, _, _, _, _, _, _, _] _
    · have h1 := HF.out.lt jb hO; have h2 := JBG.out; omega
  rw [hw2, hjb]
  clear hw2 hjb K1 R1 y0 y1 y2
  go_loopw [5, 16] (fun nv iv wr => ∃ k : Nat, k ≤ 2 ∧ iv = .int .i64 (k : Int) ∧ JAt wr B q ⟨L, jb, .slice none 0 0, []⟩ s (jnone (selF s k).1 (selF s k).2) ∧ Keeps None w wr ∧ Blk wr w.heap.size [.pointer (some ⟨q, 0, none⟩), .int .i64 0, .int .i64 2] 84 ∧
    (((selF s k).2 = -1 ∧ nv = .slice none 0 0) ∨ ∃ (A : Option Addr) (cap i : Nat), (selF s k).2 = (i : Int) ∧ nv = .slice A 1024 cap ∧ Bs wr A 1024 cap (sec s i) ∧ ∀ b off, A = some ⟨b, off, none⟩ → ¬ JX.S ⟨L, jb, .slice none 0 0, []⟩ b)) (fun _ iv _ => 2 - (intOf iv).toNat)
  case atStart => exact ⟨0, by decide, rfl, J2.out, K2.out, R2.out, .inl ⟨rfl, rfl⟩⟩
  case round =>
    clear J2 K2 R2
    obtain ⟨k, hk, rfl, hj, hkp, hr, hnv⟩ := hrel
    obtain ⟨wv, rfl⟩ : ∃ x, x = wr := ⟨_, rfl⟩
    have HJ := Lib.hid hj
    have HK := Lib.hid hkp
    have HR := Lib.hid hr
    have HN := Lib.hid hnv
    clear hj hkp hr hnv
    by_cases hlt : k < 2
    · have x0 := HR.out.cellD 0 _ rfl
      have x1 := HR.out.cellD 1 _ rfl
      have x2 := HR.out.cellD 2 _ rfl
      have RK := Lib.hid (RD.out k wv hlt HK.out)
      have LK := Lib.hid (BL.out k hlt)
      obtain ⟨zs, HZS⟩ : ∃ x, Hid (sec s k = x) := ⟨_, rfl⟩
      have SELS : Hid (selF s (k + 1) = if ((selF s k).1 : Int) < epochF zs then ((epochF zs).toNat, (k : Int)) else selF s k) := by show _ = _; rw [← HZS.out]; rfl
      rw [HZS.out] at RK LK
      go_wp2_with fail
      refine RK.out.mono ?_
      rintro e w3 ⟨v3, rfl, o3, k3⟩
      obtain ⟨A3, c3, rfl, b3, in3⟩ := o3.shape
      rw [LK.out] at b3 ⊢
      have B3 := Lib.hid b3
      have I3 := Lib.hid in3
      have K3 := Lib.hid k3
      have l3 := b3.le
      have m3 := b3.max
      clear o3 k3 b3 in3
      go_wp2_with fail
      refine (jepochof_any A3 1024 c3 zs w3 B3.out (by decide)).mono ?_
      rintro e w4 ⟨rfl, k4⟩
      have K34 := Lib.hid (K3.out.trans k4 (T := None) (fun _ h => h) (fun _ _ h => h))
      have K4 := Lib.hid (HK.out.trans K34.out (T := None) (fun _ h => h) (fun _ _ h => h))
      have B4 := Lib.hid (B3.out.keeps k4 (fun _ _ _ _ _ h => h))
      have J4 := Lib.hid (HJ.out.later K34.out)
      have R4 := Lib.hid (K34.out.blk HR.out (fun h => h))
      have NS3 : Hid (∀ b off, A3 = some ⟨b, off, none⟩ → ¬ JX.S ⟨L, jb, .slice none 0 0, []⟩ b) := fun b off e hS => by
        have h1 := (I3.out b off e).1
        have h2 := HJ.out.lt b hS
        omega
      obtain ⟨E, hE⟩ : ∃ E : Nat, epochF zs = E := ⟨(epochF zs).toNat, by have := epochF_bd zs; omega⟩
      rw [hE] at SELS ⊢
      rw [Int.toNat_natCast] at SELS
      have hE4 : E ≤ 4294967295 := by have := (epochF_bd zs).2; omega
      clear k4 hE K3 B3 I3
      obtain ⟨⟨e0, c0⟩, HSE⟩ : ∃ x, Hid (selF s k = x) := ⟨_, rfl⟩
      rw [HSE.out] at J4 SELS HN
      dsimp only at J4 SELS HN
      have y4 := J4.out.c.cellD 4 _ rfl
      have y5 := J4.out.c.cellD 5 _ rfl
      have f4 := J4.out.c.frozen 4
      have f5 := J4.out.c.frozen 5
      dsimp only [jnone] at y4 y5 f4 f5
      by_cases hgt : e0 < E
      · have d1 : decide ((e0 : Int) < (E : Int)) = true := decide_eq_true (by omega)
        have d1n : decide (e0 < E) = true := decide_eq_true hgt
        have S2 : Hid (selF s (k + 1) = (E, (k : Int))) := SELS.out.trans (if_pos (by omega))
        have P4 := Lib.hid (J4.out.put (j' := jnone E c0) 4 (.int .i64 (E : Int)) rfl rfl)
        have P5 := Lib.hid (P4.out.at_.put (j' := jnone E k) 5 (.int .i64 (k : Int)) rfl rfl)
        have JJ : Hid (w.heap.size ≤ jb) := Nat.le_of_lt JBG.out
        go_wp2
        go_roundw
        case rel =>
          refine ⟨k + 1, hlt, by go_num, by rw [S2.out]; exact P5.out.at_, (K4.out.setCell _ _ (fun h => absurd h (Nat.not_lt.2 JJ.out))).setCell _ _ (fun h => absurd h (Nat.not_lt.2 JJ.out)), (R4.out.setOther _ _ (Nat.ne_of_lt JBG.out)).setOther _ _ (Nat.ne_of_lt JBG.out), .inr ⟨A3, c3, k, by rw [S2.out], rfl, ?_, NS3.out⟩⟩
          rw [HZS.out]
          exact B4.out.keeps (S := fun b => b = jb) (((Keeps.self jb w4).put 4 _).put 5 _) (fun b off h0 _ e hb => NS3.out b off e (.inr (.inl hb)))
        case measure => simp [intOf]; omega
      · have d1 : decide ((e0 : Int) < (E : Int)) = false := decide_eq_false (by omega)
        have d1n : decide (e0 < E) = false := decide_eq_false hgt
        have S2 : Hid (selF s (k + 1) = (e0, c0)) := SELS.out.trans (if_neg (by omega))
        go_wp2
        go_roundw
        case rel =>
          refine ⟨k + 1, hlt, by go_num, by rw [S2.out]; exact J4.out, K4.out, R4.out, ?_⟩
          rw [S2.out]
          rcases HN.out with h1 | ⟨A, cap, i, h1, h2, h3, h4⟩
          · exact .inl h1
          · exact .inr ⟨A, cap, i, h1, h2, h3.keeps K34.out (fun _ _ _ _ _ h => h), h4⟩
        case measure => simp [intOf]; omega
    · obtain rfl : k = 2 := by omega
      have OS : Hid (openS s = if (selF s 2).2 = -1 then jnone (selF s 2).1 (selF s 2).2 else { jnone (selF s 2).1 (selF s 2).2 with l := (parseF 64 (sec s (selF s 2).2.toNat) 16).1, used := (parseF 64 (sec s (selF s 2).2.toNat) 16).2, torn := !blankB ((sec s (selF s 2).2.toNat).drop (parseF 64 (sec s (selF s 2).2.toNat) 16).2) }) := rfl
      obtain ⟨⟨e0, c0⟩, HSE⟩ : ∃ x, Hid (selF s 2 = x) := ⟨_, rfl⟩
      rw [HSE.out] at HJ OS HN
      dsimp only at HJ OS HN
      have y5 := HJ.out.c.cellD 5 _ rfl
      dsimp only [jnone] at y5
      have SUB : Hid (∀ (X : JX), X.jb = jb → (∀ k, X.S k → JX.S ⟨L, jb, .slice none 0 0, []⟩ k ∨ wv.heap.size ≤ k) → ∀ k, X.S k → L.O k ∨ w.heap.size ≤ k) := fun X _ ho k hk => by
        rcases ho k hk with h1 | h1
        · rcases h1 with h1 | h1 | h1 | ⟨r, hr, -⟩
          · exact .inl h1
          · have h1 : k = jb := h1
            exact .inr (by have := JBG.out; omega)
          · cases h1
          · cases hr
        · exact .inr (Nat.le_trans HK.out.size h1)
      rcases HN.out with ⟨h1, rfl⟩ | ⟨A, cap, i, h1, rfl, hbs, hns⟩
      · subst h1
        rw [if_pos rfl] at OS
        clear HN HSE
        go_wp2
        go_ret2
        exact ⟨⟨L, jb, .slice none 0 0, []⟩, rfl, by rw [OS.out]; exact HJ.out, rfl, HK.out, SUB.out _ rfl (fun k h => .inl h)⟩
      · subst h1
        have e1 : ((i : Int) == -1) = false := by simp
        have e1n : ((i : Int) != -1) = true := by simp
        rw [if_neg (by omega), Int.toNat_natCast] at OS
        have hle := hbs.le
        have hmx := hbs.max
        have HBS := Lib.hid hbs
        have HNS := Lib.hid hns
        clear HN HSE hbs hns
        go_wp2_with fail
        refine (jread_any B q ⟨L, jb, .slice none 0 0, []⟩ s (jnone e0 i) A cap (sec s i) wv HJ.out HBS.out HNS.out (Nat.zero_le _)).mono ?_
        rintro e w5 ⟨rfl, X', t5⟩
        have T5 := Lib.hid t5
        have XJ : Hid (X'.jb = jb) := t5.jb
        have K5 : Hid (Keeps None w w5) := HK.out.trans t5.k (T := None) (fun _ h => h) (fun k hk hS => by
          obtain ⟨hS, hO⟩ := hS
          rcases hS with h1 | h1 | h1 | ⟨r, hr, -⟩
          · exact absurd h1 hO
          · have h1 : k = jb := h1
            have := JBG.out; omega
          · cases h1
          · cases hr)
        clear t5
        go_wp2
        go_ret2
        exact ⟨X', by rw [XJ.out]; rfl, by rw [OS.out]; exact T5.out.at_, T5.out.l, K5.out, SUB.out _ XJ.out T5.out.o⟩
end Go.Proofs.Ytfldgaiiniknpaa
