/- The walk of cursor.New. -/
import Derived.Test.YtngofnlhbhfigaaKc3
namespace Go.Proofs.Ytngofnlhbhfigaa
open Go.RowKit

/-- A new cursor, or the error. -/
def newK (f c : Nat) (s : FS) (a : Int) : Option KS × Int :=
  if a < 0 ∨ ((1024 * c : Nat) : Int) < a then (none, 1)
  else if (s.gread f c (a - a % 8) (a % 8)).2 ≠ 0 then (none, (s.gread f c (a - a % 8) (a % 8)).2)
  else (some { at_ := a.toNat, n := a.toNat % 8, word := splice [0, 0, 0, 0, 0, 0, 0, 0] 0 (s.gread f c (a - a % 8) (a % 8)).1, ready := (a.toNat + 1023) / 1024, err := 0 }, 0)
def KMade (w : World) (B : Nat) (L : FL) (s : FS) (q f c : Nat) (p : Option KS × Int) (e : Ending) (w' : World) : Prop :=
  match p.1 with
  | none => e = .returned (.tuple #[.pointer none, .int .i64 p.2]) ∧ Keeps None w w'
  | some k => ∃ cb, e = .returned (.tuple #[.pointer (some ⟨cb, 0, none⟩), .int .i64 p.2]) ∧ KAt w' B L s cb q f c k ∧ w.heap.size ≤ cb ∧ Keeps None w w'
theorem gread_len {s : FS} {f c : Nat} {a m : Int} (h : (s.gread f c a m).2 = 0) : ((s.gread f c a m).1.length : Int) = m := by
  unfold FS.gread at h ⊢
  split at h
  · exact absurd h (by show ¬ (5 : Int) = 0; decide)
  · rename_i hd
    rw [if_neg hd]
    split at h
    · rename_i hw
      rw [if_pos hw]
      unfold FS.readF at h ⊢
      rw [if_neg hd] at h ⊢
      split at h
      · rename_i hw2
        rw [if_pos hw2]
        obtain ⟨i, j, h1, rfl, hij⟩ := within_nat hw2
        show ((((s.b.drop _).take _).length : Nat) : Int) = _
        rw [h1, List.length_take, List.length_drop, Int.toNat_natCast, Int.toNat_natCast]
        omega
      · exact absurd h (by show ¬ (2 : Int) = 0; decide)
    · exact absurd h (by show ¬ (2 : Int) = 0; decide)
theorem new_cells (q f c a n rd : Nat) (zs : List Int) (h : zs.length ≤ 8) :
    splice [.pointer (some ⟨q, 0, none⟩), .int .i64 f, .int .i64 c, .int .i64 a, .int .i64 n, .int .u8 0, .int .u8 0, .int .u8 0, .int .u8 0, .int .u8 0, .int .u8 0, .int .u8 0, .int .u8 0, .int .i64 rd, .int .i64 0] 5 (zs.map (Value.int .u8))
      = kcells q f c { at_ := a, n := n, word := splice [0, 0, 0, 0, 0, 0, 0, 0] 0 zs, ready := rd, err := 0 } := by
  unfold kcells
  show _ = _ ++ ((splice [0, 0, 0, 0, 0, 0, 0, 0] 0 zs).map (Value.int .u8) ++ _)
  rw [splice_map]
  match zs, h with
  | [], _ => rfl
  | [_], _ => rfl
  | [_, _], _ => rfl
  | [_, _, _], _ => rfl
  | [_, _, _, _], _ => rfl
  | [_, _, _, _, _], _ => rfl
  | [_, _, _, _, _, _], _ => rfl
  | [_, _, _, _, _, _, _], _ => rfl
  | [_, _, _, _, _, _, _, _], _ => rfl
  | _ :: _ :: _ :: _ :: _ :: _ :: _ :: _ :: _ :: _, h => simp at h
set_option maxRecDepth 100000 in
set_option maxHeartbeats 1600000 in
theorem knew_any (B : Nat) (L : FL) (s : FS) (q f c : Nat) (a : Int) (w : World) (h : FAt w B L s) (hq : L.bf = q) (hf : f + c ≤ L.n) (hB : B ≤ w.heap.size) :
    Calls Try.prog 51 #[.agg #[.pointer (some ⟨q, 0, none⟩), .int .i64 f, .int .i64 c], .int .i64 a] w (KMade w B L s q f c (newK f c s a)) := by
  have hn9 := h.n9
  have k0 : Keeps None w (w.alloc (.cells #[.pointer (some ⟨q, 0, none⟩), .int .i64 f, .int .i64 c] 27)) := (Keeps.refl None w).alloc _
  have bx : Blk (w.alloc (.cells #[.pointer (some ⟨q, 0, none⟩), .int .i64 f, .int .i64 c] 27)) w.heap.size [.pointer (some ⟨q, 0, none⟩), .int .i64 f, .int .i64 c] 27 := Blk.new w [.pointer (some ⟨q, 0, none⟩), .int .i64 f, .int .i64 c] 27
  have K0 := Lib.hid k0
  have BX := Lib.hid bx
  clear k0 bx
  obtain ⟨p, hp⟩ : ∃ p, newK f c s a = p := ⟨_, rfl⟩
  rw [hp]
  unfold newK at hp
  obtain ⟨sz, hsz⟩ : ∃ x, 1024 * c = x := ⟨_, rfl⟩
  have GS := Lib.hid (fun w => gsize_any (some ⟨q, 0, none⟩) f c (by omega) w)
  have H := Lib.hid h
  have HQ := Lib.hid hq
  have HF := Lib.hid hf
  rw [hsz] at GS hp
  by_cases q1 : a < 0
  · have d1 : decide (a < 0) = true := decide_eq_true q1
    rw [if_pos (.inl q1)] at hp
    have HP := Lib.hid hp
    clear hp h hq hf hsz
    go_enter Try.func51, Try.ntmps51
    go_wp2
    go_ret2
    rw [← HP.out]
    exact ⟨rfl, K0.out⟩
  have d1 : decide (a < 0) = false := decide_eq_false q1
  by_cases q2 : (sz : Int) < a
  · have d2 : decide ((sz : Int) < a) = true := decide_eq_true q2
    rw [if_pos (.inr q2)] at hp
    have HP := Lib.hid hp
    clear hp h hq hf hsz
    go_enter Try.func51, Try.ntmps51
    go_wp2_with fail
    refine (GS.out _).mono ?_
    rintro e w1 ⟨rfl, k1⟩
    have K1 := Lib.hid (K0.out.trans k1 (T := None) (fun _ h => h) (fun _ _ h => h))
    have X1 := Lib.hid (k1.blk BX.out (fun h => h))
    have x0 := X1.out.cellD 0 _ rfl
    have x1 := X1.out.cellD 1 _ rfl
    have x2 := X1.out.cellD 2 _ rfl
    clear k1
    go_wp2
    go_ret2
    rw [← HP.out]
    exact ⟨rfl, K1.out⟩
  have d2 : decide ((sz : Int) < a) = false := decide_eq_false q2
  rw [if_neg (by omega)] at hp
  obtain ⟨a, rfl⟩ : ∃ x : Nat, a = x := ⟨a.toNat, by omega⟩
  obtain ⟨n, hn⟩ : ∃ x, a % 8 = x := ⟨_, rfl⟩
  obtain ⟨w0, hw0⟩ : ∃ x, a - n = x := ⟨_, rfl⟩
  obtain ⟨rd, hrd⟩ : ∃ x, (a + 1023) / 1024 = x := ⟨_, rfl⟩
  have e1 : ((a : Int) % 8) = n := by omega
  have e2 : ((a : Int) - n) = w0 := by omega
  rw [e1, e2, Int.toNat_natCast, hn, hrd] at hp
  have i1 : IntKind.i64.wrap ((a : Int) - n) = w0 := by rw [e2]; exact wrap_nat _ (by omega)
  have i2 : (((a : Int) + 1024 - 1) / 1024) = rd := by omega
  have i3 : (((a : Int) + 1023) / 1024) = rd := by omega
  have RD := Lib.hid (fun w' (h' : FAt w' B L s) => gread_any B L s q f c w0 n w' h' hq (by omega))
  have hgl := @gread_len s f c (w0 : Int) (n : Int)
  generalize s.gread f c w0 n = g at *
  obtain ⟨zs, ge⟩ := g
  simp only [] at hp hgl RD
  have n8 : n < 8 := by omega
  have asz : a ≤ 262144 := by omega
  have rdc : rd ≤ c := by omega
  have FIN1 : Hid (n ≤ a ∧ a ≤ 1024 * c) := ⟨by omega, by omega⟩
  by_cases q3 : ge = 0
  · subst q3
    have b3 : ((0 : Int) != 0) = false := rfl
    rw [if_neg (by simp)] at hp
    have hzl : zs.length = n := by have := hgl rfl; omega
    have HP := Lib.hid hp
    have HZL := Lib.hid hzl
    clear hp h hq hf hsz hn hw0 hrd e2 hgl hzl
    go_enter Try.func51, Try.ntmps51
    go_wp2_with fail
    refine (GS.out _).mono ?_
    rintro e w1 ⟨rfl, k1⟩
    have K1 := Lib.hid (K0.out.trans k1 (T := None) (fun _ h => h) (fun _ _ h => h))
    have X1 := Lib.hid (k1.blk BX.out (fun h => h))
    have x0 := X1.out.cellD 0 _ rfl
    have x1 := X1.out.cellD 1 _ rfl
    have x2 := X1.out.cellD 2 _ rfl
    clear k1
    go_wp2_with fail
    refine (RD.out _ (H.out.later K1.out)).mono ?_
    rintro e w2 ⟨v2, rfl, o2, k2⟩
    obtain ⟨A2, c2, rfl, bs2⟩ := slice_of_own o2
    simp only [] at bs2
    simp only [e1]
    have K2 := Lib.hid (K1.out.trans k2 (T := None) (fun _ h => h) (fun _ _ h => h))
    have X2 := Lib.hid (k2.blk X1.out (fun h => h))
    clear x0 x1 x2
    have x0 := X2.out.cellD 0 _ rfl
    have x1 := X2.out.cellD 1 _ rfl
    have x2 := X2.out.cellD 2 _ rfl
    have X3 := Lib.hid (Blk.new w2 [.pointer (some ⟨q, 0, none⟩), .int .i64 f, .int .i64 c, .int .i64 a, .int .i64 n, .int .u8 0, .int .u8 0, .int .u8 0, .int .u8 0, .int .u8 0, .int .u8 0, .int .u8 0, .int .u8 0, .int .i64 rd, .int .i64 0] 114)
    have B3 := Lib.hid (bs2.alloc (.cells #[.pointer (some ⟨q, 0, none⟩), .int .i64 f, .int .i64 c, .int .i64 a, .int .i64 n, .int .u8 0, .int .u8 0, .int .u8 0, .int .u8 0, .int .u8 0, .int .u8 0, .int .u8 0, .int .u8 0, .int .i64 rd, .int .i64 0] 114))
    have l2 := bs2.le
    have m2 := bs2.max
    clear o2 k2 bs2
    have hz8 : zs.length ≤ 8 := by have := HZL.out; omega
    go_wp2_with (with_reducible (refine wpList_copy_blk (g := w2.heap.size) (off := 5) rfl rfl rfl rfl (fun _ => rfl) X3.out B3.out (by simp only [List.length_cons, List.length_nil]; omega) ?_))
    intro w3 b3 k3
    rw [List.take_of_length_le (by rw [List.length_map]; exact hz8)] at b3
    rw [new_cells q f c a n rd zs hz8] at b3
    have C3 := Lib.hid b3
    have K3 := Lib.hid ((K2.out.alloc (.cells #[.pointer (some ⟨q, 0, none⟩), .int .i64 f, .int .i64 c, .int .i64 a, .int .i64 n, .int .u8 0, .int .u8 0, .int .u8 0, .int .u8 0, .int .u8 0, .int .u8 0, .int .u8 0, .int .u8 0, .int .i64 rd, .int .i64 0] 114)).trans k3 (T := None) (fun _ h => h) (fun i hi e => absurd hi (by have := K2.out.size; omega)))
    have hby : ∀ z ∈ splice [0, 0, 0, 0, 0, 0, 0, 0] 0 zs, 0 ≤ z ∧ z ≤ 255 := splice_byte (by decide) B3.out.byte
    have HBY := Lib.hid hby
    clear b3 k3 hby x0 x1 x2
    go_wp2
    go_ret2
    rw [← HP.out]
    exact ⟨w2.heap.size, rfl, ⟨H.out.later K3.out, HQ.out, C3.out, fun hO => absurd ((H.out.later K2.out).lt _ hO) (Nat.lt_irrefl _), Nat.le_trans hB K2.out.size, by show (splice _ 0 zs).length = 8; rw [splice_len _ _ _ (by show 0 + zs.length ≤ 8; omega)]; rfl, HBY.out, by show n ≤ 8; omega, FIN1.out.1, FIN1.out.2, rdc, HF.out⟩, K2.out.size, K3.out⟩
  · have b3 : (ge != 0) = true := by simp [q3]
    rw [if_pos q3] at hp
    have HP := Lib.hid hp
    clear hp h hq hf hsz hn hw0 hrd e2 hgl
    go_enter Try.func51, Try.ntmps51
    go_wp2_with fail
    refine (GS.out _).mono ?_
    rintro e w1 ⟨rfl, k1⟩
    have K1 := Lib.hid (K0.out.trans k1 (T := None) (fun _ h => h) (fun _ _ h => h))
    have X1 := Lib.hid (k1.blk BX.out (fun h => h))
    have x0 := X1.out.cellD 0 _ rfl
    have x1 := X1.out.cellD 1 _ rfl
    have x2 := X1.out.cellD 2 _ rfl
    clear k1
    go_wp2_with fail
    refine (RD.out _ (H.out.later K1.out)).mono ?_
    rintro e w2 ⟨v2, rfl, o2, k2⟩
    go_wp2
    go_ret2
    rw [← HP.out]
    exact ⟨rfl, K1.out.trans k2 (T := None) (fun _ h => h) (fun _ _ h => h)⟩
end Go.Proofs.Ytngofnlhbhfigaa
