
/- token.Reader: the walks of whole, Next and NewReader. -/
import Derived.Test.YtnanbnaikmaljaaLzPXTkRead
import Derived.Test.YtnanbnaikmaljaaLzPa
namespace Go.Proofs.Ytnanbnaikmaljaa
open Go.RowKit

set_option maxRecDepth 100000 in
set_option maxHeartbeats 800000 in
theorem tkwhole_any (r : Nat) (T : TL) (s : RdS) (v : Int) (w : World) (h : Blk w r (rcells T s) 92) (hp : s.part ≤ 4) (v0 : 0 ≤ v) (v1 : v < (2 : Int) ^ szP s.part) (hd : s.part = 4 → 0 ≤ s.t.d ∧ s.t.d ≤ 4032) :
    Calls Try.prog 63 #[.pointer (some ⟨r, 0, none⟩), .int .i64 v] w fun e w' => e = .returned (.bool (rDone s)) ∧ Blk w' r (rcells T (rWhole s v)) 92 ∧ Keeps (fun k => k = r) w w' := by
  obtain ⟨⟨p0, p1, be, bt, lt, dt⟩, part, node, ⟨tn, td, tb⟩⟩ := s
  simp only [] at hp v1 hd
  have S0 := Lib.hid h
  clear h
  obtain rfl | rfl | rfl | rfl | rfl : part = 0 ∨ part = 1 ∨ part = 2 ∨ part = 3 ∨ part = 4 := by omega
  · have v1 : v < 2 := v1
    clear hd hp
    obtain rfl | rfl : v = 0 ∨ v = 1 := by omega
    · skip
      have S : Hid (Blk w r [.int .i64 p0, .int .i64 p1, .int .i64 be, .pointer (some ⟨T.b1, 0, none⟩), .pointer (some ⟨T.b2, 0, none⟩), .pointer (some ⟨T.b3, 0, none⟩), .int .i64 0, .int .i64 node, .int .i64 tn, .int .i64 td, .int .u8 tb] 92) := S0.out
      have c2 := S.out.cellD 2 _ rfl
      have c6 := S.out.cellD 6 _ rfl
      have c8 := S.out.cellD 8 _ rfl
      have c9 := S.out.cellD 9 _ rfl
      have c10 := S.out.cellD 10 _ rfl
      have u2 := S.out.frozen 2
      have u6 := S.out.frozen 6
      have u8 := S.out.frozen 8
      have u9 := S.out.frozen 9
      have u10 := S.out.frozen 10
      clear S0
      go_enter Try.func63, Try.ntmps63
      go_wp2
      go_ret
      exact ⟨rfl, ((((S.out.set 2 _).set 8 _).set 9 _).set 10 _).set 6 _, (((((Keeps.self r w).put 2 _).put 8 _).put 9 _).put 10 _).put 6 _⟩
    · skip
      have S : Hid (Blk w r [.int .i64 p0, .int .i64 p1, .int .i64 be, .pointer (some ⟨T.b1, 0, none⟩), .pointer (some ⟨T.b2, 0, none⟩), .pointer (some ⟨T.b3, 0, none⟩), .int .i64 0, .int .i64 node, .int .i64 tn, .int .i64 td, .int .u8 tb] 92) := S0.out
      have c2 := S.out.cellD 2 _ rfl
      have c6 := S.out.cellD 6 _ rfl
      have c8 := S.out.cellD 8 _ rfl
      have c9 := S.out.cellD 9 _ rfl
      have c10 := S.out.cellD 10 _ rfl
      have u2 := S.out.frozen 2
      have u6 := S.out.frozen 6
      have u8 := S.out.frozen 8
      have u9 := S.out.frozen 9
      have u10 := S.out.frozen 10
      clear S0
      go_enter Try.func63, Try.ntmps63
      go_wp2
      go_ret
      exact ⟨rfl, (((((S.out.set 2 _).set 8 _).set 9 _).set 10 _).set 6 _).set 6 _, ((((((Keeps.self r w).put 2 _).put 8 _).put 9 _).put 10 _).put 6 _).put 6 _⟩
  · have v1 : v < 256 := v1
    clear hd hp
    have S : Hid (Blk w r [.int .i64 p0, .int .i64 p1, .int .i64 be, .pointer (some ⟨T.b1, 0, none⟩), .pointer (some ⟨T.b2, 0, none⟩), .pointer (some ⟨T.b3, 0, none⟩), .int .i64 1, .int .i64 node, .int .i64 tn, .int .i64 td, .int .u8 tb] 92) := S0.out
    have c2 := S.out.cellD 2 _ rfl
    have c6 := S.out.cellD 6 _ rfl
    have c8 := S.out.cellD 8 _ rfl
    have c9 := S.out.cellD 9 _ rfl
    have c10 := S.out.cellD 10 _ rfl
    have u2 := S.out.frozen 2
    have u6 := S.out.frozen 6
    have u8 := S.out.frozen 8
    have u9 := S.out.frozen 9
    have u10 := S.out.frozen 10
    clear S0
    go_enter Try.func63, Try.ntmps63
    go_wp2
    go_ret
    exact ⟨rfl, (S.out.set 10 _).set 6 _, ((Keeps.self r w).put 10 _).put 6 _⟩
  · have v1 : v < 256 := v1
    clear hd hp
    have S : Hid (Blk w r [.int .i64 p0, .int .i64 p1, .int .i64 be, .pointer (some ⟨T.b1, 0, none⟩), .pointer (some ⟨T.b2, 0, none⟩), .pointer (some ⟨T.b3, 0, none⟩), .int .i64 2, .int .i64 node, .int .i64 tn, .int .i64 td, .int .u8 tb] 92) := S0.out
    have c2 := S.out.cellD 2 _ rfl
    have c6 := S.out.cellD 6 _ rfl
    have c8 := S.out.cellD 8 _ rfl
    have c9 := S.out.cellD 9 _ rfl
    have c10 := S.out.cellD 10 _ rfl
    have u2 := S.out.frozen 2
    have u6 := S.out.frozen 6
    have u8 := S.out.frozen 8
    have u9 := S.out.frozen 9
    have u10 := S.out.frozen 10
    clear S0
    go_enter Try.func63, Try.ntmps63
    go_wp2
    go_ret
    exact ⟨rfl, (S.out.set 8 _).set 6 _, ((Keeps.self r w).put 8 _).put 6 _⟩
  · have v1 : v < 64 := v1
    clear hd hp
    have S : Hid (Blk w r [.int .i64 p0, .int .i64 p1, .int .i64 be, .pointer (some ⟨T.b1, 0, none⟩), .pointer (some ⟨T.b2, 0, none⟩), .pointer (some ⟨T.b3, 0, none⟩), .int .i64 3, .int .i64 node, .int .i64 tn, .int .i64 td, .int .u8 tb] 92) := S0.out
    have c2 := S.out.cellD 2 _ rfl
    have c6 := S.out.cellD 6 _ rfl
    have c8 := S.out.cellD 8 _ rfl
    have c9 := S.out.cellD 9 _ rfl
    have c10 := S.out.cellD 10 _ rfl
    have u2 := S.out.frozen 2
    have u6 := S.out.frozen 6
    have u8 := S.out.frozen 8
    have u9 := S.out.frozen 9
    have u10 := S.out.frozen 10
    clear S0
    go_enter Try.func63, Try.ntmps63
    go_wp2
    go_ret
    exact ⟨rfl, (S.out.set 9 _).set 6 _, ((Keeps.self r w).put 9 _).put 6 _⟩
  · have v1 : v < 64 := v1
    obtain ⟨d0, d1⟩ := hd rfl
    clear hd hp
    have S : Hid (Blk w r [.int .i64 p0, .int .i64 p1, .int .i64 be, .pointer (some ⟨T.b1, 0, none⟩), .pointer (some ⟨T.b2, 0, none⟩), .pointer (some ⟨T.b3, 0, none⟩), .int .i64 4, .int .i64 node, .int .i64 tn, .int .i64 td, .int .u8 tb] 92) := S0.out
    have c2 := S.out.cellD 2 _ rfl
    have c6 := S.out.cellD 6 _ rfl
    have c8 := S.out.cellD 8 _ rfl
    have c9 := S.out.cellD 9 _ rfl
    have c10 := S.out.cellD 10 _ rfl
    have u2 := S.out.frozen 2
    have u6 := S.out.frozen 6
    have u8 := S.out.frozen 8
    have u9 := S.out.frozen 9
    have u10 := S.out.frozen 10
    clear S0
    go_enter Try.func63, Try.ntmps63
    go_wp2
    go_ret
    exact ⟨rfl, (S.out.set 9 _).set 6 _, ((Keeps.self r w).put 9 _).put 6 _⟩

def rFull (s : RdS) (d : DSt) : Bool := decide ((2 : Int) ^ szP s.part ≤ 2 * s.node + rBit s d)
def rNext (s : RdS) (d : DSt) : RdS := if rFull s d = true then rWhole { s with m := rLearn s d, node := 1 } (2 * s.node + rBit s d - 2 ^ szP s.part) else { s with m := rLearn s d, node := 2 * s.node + rBit s d }
def rTok (s : RdS) (d : DSt) : Bool := rFull s d && rDone s
theorem MOk.learn {s : RdS} (d : DSt) (h : MOk s.m) : MOk (rLearn s d) := by
  unfold rLearn
  split
  · unfold Ms.setp; split <;> exact ⟨h.o1, h.o2, h.o3, h.be⟩
  split
  · exact ⟨h.o1.turn _ _, h.o2, h.o3, h.be⟩
  split
  · exact ⟨h.o1, h.o2.turn _ _, h.o3, h.be⟩
  split
  · exact ⟨h.o1, h.o2, h.o3.turn _ _, h.be⟩
  · exact h
theorem ROk.next {s : RdS} (d : DSt) (h : ROk s) : ROk (rNext s d) := by
  have mL := h.mok.learn d
  have hb := rBit_01 s d
  obtain ⟨mok, hp, n1, n2, d0, d4, wf⟩ := h
  unfold rNext
  by_cases hf : rFull s d = true
  · rw [if_pos hf]
    have hf := of_decide_eq_true hf
    obtain ⟨v, hv⟩ : ∃ x, 2 * s.node + rBit s d - 2 ^ szP s.part = x := ⟨_, rfl⟩
    rw [hv]
    obtain ⟨m, part, node, ⟨tn, td, tb⟩⟩ := s
    generalize rLearn _ d = mm at *
    generalize rBit _ d = bb at *
    simp only [] at mok hp n1 n2 d0 d4 wf mL hb hf hv
    obtain ⟨wa, wb, wc, wd, we, wg⟩ := wf
    simp only [] at wa wb wc wd we wg
    obtain rfl | rfl | rfl | rfl | rfl : part = 0 ∨ part = 1 ∨ part = 2 ∨ part = 3 ∨ part = 4 := by omega
    · have e : (2 : Int) ^ szP 0 = 2 := rfl
      rw [e] at n2 hf hv
      unfold rWhole
      rw [if_pos rfl]
      refine ⟨⟨mL.o1, mL.o2, mL.o3, by show v = 0 ∨ v = 1; omega⟩, by show (if v = 1 then 2 else 1) ≤ 4; split <;> decide, show (1 : Int) ≤ 1 from by decide, ?_, show (0 : Int) ≤ 0 from by decide, ?_, ⟨show (-9223372036854775808 : Int) ≤ 0 from by decide, show (0 : Int) ≤ 9223372036854775807 from by decide, show (-9223372036854775808 : Int) ≤ 0 from by decide, show (0 : Int) ≤ 9223372036854775807 from by decide, show (0 : Int) ≤ 0 from by decide, show (0 : Int) ≤ 255 from by decide⟩⟩
      · show (1 : Int) < 2 ^ szP (if v = 1 then 2 else 1)
        split <;> decide
      · intro h
        have h : (if v = 1 then 2 else 1) = 4 := h
        split at h <;> cases h
    · have e : (2 : Int) ^ szP 1 = 256 := rfl
      rw [e] at n2 hf hv
      exact ⟨mL, show 0 ≤ 4 from by decide, show (1 : Int) ≤ 1 from by decide, show (1 : Int) < 2 ^ szP 0 from by decide, d0, (fun h => absurd (show 0 = 4 from h) (by decide)), ⟨wa, wb, wc, wd, by show 0 ≤ v; omega, by show v ≤ 255; omega⟩⟩
    · have e : (2 : Int) ^ szP 2 = 256 := rfl
      rw [e] at n2 hf hv
      exact ⟨mL, show 3 ≤ 4 from by decide, show (1 : Int) ≤ 1 from by decide, show (1 : Int) < 2 ^ szP 3 from by decide, d0, (fun h => absurd (show 3 = 4 from h) (by decide)), ⟨by show -9223372036854775808 ≤ v + 2; omega, by show v + 2 ≤ 9223372036854775807; omega, wc, wd, we, wg⟩⟩
    · have e : (2 : Int) ^ szP 3 = 64 := rfl
      rw [e] at n2 hf hv
      exact ⟨mL, show 4 ≤ 4 from by decide, show (1 : Int) ≤ 1 from by decide, show (1 : Int) < 2 ^ szP 4 from by decide, by show 0 ≤ v * 64; omega, (fun _ => by show v * 64 ≤ 4032; omega), ⟨wa, wb, by show -9223372036854775808 ≤ v * 64; omega, by show v * 64 ≤ 9223372036854775807; omega, we, wg⟩⟩
    · have e : (2 : Int) ^ szP 4 = 64 := rfl
      rw [e] at n2 hf hv
      have d4 := d4 rfl
      exact ⟨mL, show 0 ≤ 4 from by decide, show (1 : Int) ≤ 1 from by decide, show (1 : Int) < 2 ^ szP 0 from by decide, by show 0 ≤ td + (v + 1); omega, (fun h => absurd (show 0 = 4 from h) (by decide)), ⟨wa, wb, by show -9223372036854775808 ≤ td + (v + 1); omega, by show td + (v + 1) ≤ 9223372036854775807; omega, we, wg⟩⟩
  · rw [if_neg hf]
    have hf : ¬ (2 : Int) ^ szP s.part ≤ 2 * s.node + rBit s d := fun h => hf (decide_eq_true h)
    exact ⟨mL, hp, by show 1 ≤ 2 * s.node + rBit s d; omega, by show 2 * s.node + rBit s d < 2 ^ szP s.part; omega, d0, d4, wf⟩
theorem DOk.rDec {d : DSt} (s : RdS) (h : DOk d) : DOk (rDec s d) := by
  unfold Go.Proofs.Ytnanbnaikmaljaa.rDec
  split
  · exact h.half
  · exact h.bit _

theorem infoToken : (Try.prog.info? 51).map (fun i => (i.zero, i.size)) = some (some (.agg #[.int .i64 0, .int .i64 0, .int .u8 0]), 3) := by kernel_rfl
theorem tok_res2 {fn : Func} (hr : fn.results = #[.cell 4 51, .tmp 5]) {w : World} {g : Nat} {a b c v : Value} {T : TypeId} (tmps : Array Value) (h : Blk w g [a, b, c] T) (h2 : tmps.getD 4 undef = .pointer (some ⟨g, 0, none⟩)) (h3 : tmps.getD 5 undef = v) :
    (results fn tmps).run Try.prog w = .ok (.tuple #[.agg #[a, b, c], v]) w := by
  have hl : (loadVar 51 ⟨g, 0, none⟩).run Try.prog w = .ok (.agg #[a, b, c]) w :=
    run_loadVar_row w g T 51 #[a, b, c] (0, 0) _ h Try.underlying51 rfl (by rw [(zero_of_info infoToken).2]; rfl)
  simp only [results, hr]
  have h2' : tmps[4]?.getD undef = .pointer (some ⟨g, 0, none⟩) := by simpa using h2
  have h3' : tmps[5]?.getD undef = v := by simpa using h3
  simp [Sem.run_bind, Result.andThen, h2', h3', asAddr, Sem.run_pure, hl]

def NextDone (w : World) (db : Nat) (T : TL) (s : RdS) (d : DSt) (e : Ending) (w' : World) : Prop :=
  e = .returned (.tuple #[tagg (if rTok s d = true then (rNext s d).t else ⟨0, 0, 0⟩), .bool (rTok s d)]) ∧ RAt w' db T (rNext s d) (rDec s d) ∧ Keeps (RdB db T) w w'
end Go.Proofs.Ytnanbnaikmaljaa
