
/- The walks of ledger.Open, of folder 23's open, num and alive. -/
import Derived.Test.YtfldgaiiniknpaaLCuXLg12
import Derived.Test.YtfldgaiiniknpaaLCuXJlCut
namespace Go.Proofs.Ytfldgaiiniknpaa
open Go.RowKit

theorem keptJ_lG {s : FS} {e : Nat} {c : Int} {l : List Rec} {T : List Int} (h : Keep s e c l T) : (keptJ e c l T).l = l := by
  rcases h with ⟨rfl, rfl, rfl, rfl, -⟩ | ⟨t, ht, rfl, -⟩
  · rfl
  · rw [keptJ_ge (by omega)]
theorem Keep.bytG {s : FS} {e : Nat} {c : Int} {l : List Rec} {T : List Int} (h : Keep s e c l T) : ∀ r ∈ l, Byt r.b := fun r hr => ((h.good (n := 2)).1 r hr).byt
/-- What opening a ledger answers. -/
def LGOpen (W w : World) (B q : Nat) (L : FL) (s : FS) (j : JS) (st : St) (e : Ending) (w' : World) : Prop :=
  ∃ (X : JX) (jb lb : Nat) (A : Option Addr) (n cap : Nat), e = .returned (.pointer (some ⟨lb, 0, none⟩)) ∧ LG W w' B q lb jb X s j st A n cap ∧ (X.L = L ∧ ∀ k, X.S k → L.O k ∨ w.heap.size ≤ k) ∧ Keeps None w w' ∧ w.heap.size ≤ lb
theorem led_zero : (Try.prog).built 93 #[].toList = some (.pointer none :: stZ.cs none 0 0).toArray := by kernel_rfl
theorem built_led0 (parts : List (Nat × Value)) : (Try.prog).built 93 parts = Instr.fill (fun x => [(0, 1), (1, 82)].toArray[x]?) (.pointer none :: stZ.cs none 0 0).toArray parts := by kernel_rfl
theorem built_led {st : St} (o : st.ok) (jb : Nat) (A : Option Addr) (n cap : Nat) : (Try.prog).built 93 #[(0, .pointer (some ⟨jb, 0, none⟩)), (1, .agg (st.cs A n cap).toArray)].toList = some (st.lcs jb A n cap).toArray := by
  rw [built_led0]
  show Instr.fill _ _ [(0, .pointer (some ⟨jb, 0, none⟩)), (1, .agg (st.cs A n cap).toArray)] = _
  rw [fill_splice (off := 0) (size := 1) (ds := [.pointer (some ⟨jb, 0, none⟩)]) rfl rfl rfl (by simp), fill_splice (off := 1) (size := 82) (ds := st.cs A n cap) rfl rfl (St.cs_len o _ _ _) (by simp [splice, St.cs_len stZ_ok])]
  unfold Instr.fill
  congr 2
  have l1 := St.cs_len o A n cap
  have l2 := St.cs_len stZ_ok none 0 0
  simp [splice, St.lcs, l1, l2]
set_option maxRecDepth 100000 in
set_option maxHeartbeats 3200000 in
theorem lgopen_any {W w : World} {B q n e : Nat} {c : Int} {l : List Rec} {T : List Int} {L : FL} {s : FS} (h : LF W w B q L s) (g : FG s n) (hd : s.dark = false) (hk : Keep s e c l T) :
    Calls Try.prog 48 #[.agg #[.pointer (some ⟨q, 0, none⟩), .int .i64 0, .int .i64 2]] w fun e' w' => ∃ lb, e' = .returned (.tuple #[.pointer (some ⟨lb, 0, none⟩), .int .i64 0]) ∧ LGOpen W w B q L s (keptJ e c l T) (foldS l) (.returned (.pointer (some ⟨lb, 0, none⟩))) w' := by
  have hn : 2 ≤ L.n := by have h1 := h.at_.el; rw [g.el] at h1; have h2 := g.n2; omega
  have OP := Lib.hid (fun w1 (k : Keeps None w w1) => jopen_yes B L s q w1 (h.at_.later k) h.q hd hn)
  rw [hk.open g] at OP
  have OK := Lib.hid hk.ok
  have JL := Lib.hid (keptJ_lG hk)
  have BY := Lib.hid (foldS_inv hk.bytG)
  have HK := Lib.hid h.keeps
  have HLE := Lib.hid h.le
  clear h
  go_enter Try.func48, Try.ntmps48
  go_wp2_with fail
  refine (OP.out _ ((Keeps.refl None w).alloc _)).mono ?_
  rintro e w2 ⟨X, rfl, h2, hL, k2, hO⟩
  have KK := Lib.hid (((Keeps.refl None w).alloc (.cells #[.pointer (some ⟨q, 0, none⟩), .int .i64 0, .int .i64 2] 84)).trans k2 (T := None) (fun _ h => h) (fun _ _ h => h))
  have H2 : Hid (LJ W w2 B q X.jb X s (keptJ _ c l T)) := ⟨h2, rfl, HK.out.trans KK.out (fun _ h => h) (fun _ _ h => h), HLE.out⟩
  have HL := Lib.hid hL
  have HO : Hid (∀ k, X.S k → L.O k ∨ w.heap.size ≤ k) := fun k hk => (hO k hk).imp id (fun h => Nat.le_trans ((Keeps.refl None w).alloc (.cells #[.pointer (some ⟨q, 0, none⟩), .int .i64 0, .int .i64 2] 84)).size h)
  clear h2 hL k2 hO OP
  obtain ⟨jb, hjb⟩ : ∃ x, X.jb = x := ⟨_, rfl⟩
  rw [hjb] at H2 ⊢
  go_wp2_with fail
  refine (ljall H2.out OK.out).mono ?_
  rw [JL.out]
  rintro e w3 ⟨A3, c3, rs, rfl, hr, hm, k3⟩
  have FD := Lib.hid (lgfold_any _ _ _ _ _ w3 hr.r hr.bd)
  rw [hm] at FD
  have H3 := Lib.hid (H2.out.later k3)
  have K3 := Lib.hid (KK.out.trans k3 (T := None) (fun _ h => h) (fun _ _ h => h))
  clear hr hm k3 H2 KK
  go_wp2_with fail
  refine FD.out.mono ?_
  rintro e w4 ⟨A4, n4, c4, rfl, m4, k4⟩
  have H4 := Lib.hid (H3.out.later k4)
  have K4 := Lib.hid (K3.out.trans k4 (T := None) (fun _ h => h) (fun _ _ h => h))
  have M4 : Hid (ChkV w4 (fun b => B ≤ b ∧ ¬ X.S b ∧ ¬ b = w4.heap.size) A4 n4 c4 (foldS l).k.mid) := m4.lt.mono (fun b hb => by
    rcases hb.1 with h | h
    · exact absurd h (fun h => h)
    · have h1 : B ≤ jb := by have := H3.out.at_.jB; rw [hjb] at this; exact this
      have h2 : jb < w3.heap.size := by have := H3.out.at_.c.lt; rw [hjb] at this; exact this
      exact ⟨by omega, fun hS => by have := H3.out.at_.lt b hS; omega, by have := hb.2; omega⟩)
  have BD := Lib.hid (built_led BY.out.ok jb A4 n4 c4)
  have jBB : B ≤ w4.heap.size := by have h1 := H4.out.at_.jB; have h2 := H4.out.at_.c.lt; omega
  have GL : Hid (LG W (w4.alloc (.cells ((foldS l).lcs jb A4 n4 c4).toArray 93)) B q w4.heap.size jb X s (keptJ _ c l T) (foldS l) A4 n4 c4) :=
    ⟨H4.out.alloc _, Blk.new w4 ((foldS l).lcs jb A4 n4 c4) 93, fun hS => by have := H4.out.at_.lt _ hS; omega, jBB, M4.out.later ((Keeps.refl None w4).alloc _), BY.out⟩
  have K5 := Lib.hid (K4.out.alloc (.cells ((foldS l).lcs jb A4 n4 c4).toArray 93))
  unfold St.v
  clear m4 k4 FD H3 K3 H4
  go_wp2_with (refine wpList_build_run BD.out rfl rfl (by simp [Act.eval, Act.put]) ?_)
  go_ret2
  exact ⟨w4.heap.size, rfl, X, jb, _, A4, n4, c4, rfl, GL.out, ⟨HL.out, HO.out⟩, K5.out, K4.out.size⟩
set_option maxRecDepth 100000 in
theorem num23_any (x : Int) (w : World) : Calls Try.prog 30 #[.int .i64 x] w (Same (.int .i64 x) w) := by
  go_enter Try.func30, Try.ntmps30
  go_wp2
  go_ret
  exact ⟨rfl, rfl⟩
set_option maxRecDepth 100000 in
set_option maxHeartbeats 800000 in
theorem open23_any {W w : World} {B q n e : Nat} {c : Int} {l : List Rec} {T : List Int} {L : FL} {s : FS} (h : LF W w B q L s) (g : FG s n) (hd : s.dark = false) (hk : Keep s e c l T) :
    Calls Try.prog 23 #[.pointer (some ⟨q, 0, none⟩)] w (LGOpen W w B q L s (keptJ e c l T) (foldS l)) := by
  have EL : Hid (someB 0 2 (s.er.length : Int) = true) := decide_eq_true (by have := g.el; have := g.n2; omega)
  have OP := Lib.hid (fun w1 (k : Keeps None w w1) => lgopen_any (h.later k) g hd hk)
  have OF := Lib.hid (lgof h 0 2)
  have HK := Lib.hid h.keeps
  have HLE := Lib.hid h.le
  clear h
  go_enter Try.func23, Try.ntmps23
  go_wp2_with fail
  refine OF.out.mono ?_
  rw [ofF_yes EL.out, Int.zero_add]
  rintro e w1 ⟨rfl, k1⟩
  have K1 := Lib.hid k1
  clear k1 OF EL
  go_wp2_with fail
  refine (OP.out _ ((K1.out).alloc _)).mono ?_
  rintro e w2 ⟨lb, rfl, X, jb, lb', A, n, cap, e, g2, hL, k2, hlb⟩
  cases e
  have K2 := Lib.hid ((K1.out.alloc _).trans k2 (T := None) (fun _ h => h) (fun _ _ h => h))
  have G2 := Lib.hid g2
  have HL := Lib.hid hL.1
  have HO : Hid (∀ k, X.S k → L.O k ∨ w.heap.size ≤ k) := fun k hk => (hL.2 k hk).imp id (fun h => Nat.le_trans (K1.out.alloc _).size h)
  have HB : Hid (w.heap.size ≤ lb) := Nat.le_trans (K1.out.alloc _).size hlb
  clear g2 hL k2 hlb K1 OP
  go_wp2_with fail
  refine (num23_any _ _).mono ?_
  rintro e w3 ⟨rfl, rfl⟩
  go_wp2
  go_ret
  exact ⟨X, jb, lb, A, n, cap, rfl, G2.out, ⟨HL.out, HO.out⟩, K2.out, HB.out⟩
end Go.Proofs.Ytfldgaiiniknpaa
