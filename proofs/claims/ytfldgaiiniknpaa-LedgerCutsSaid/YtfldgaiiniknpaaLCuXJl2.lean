
/- A journal in a law's world. -/
import Derived.Test.YtfldgaiiniknpaaLCuXJl
import Derived.Test.YtfldgaiiniknpaaLCue
namespace Go.Proofs.Ytfldgaiiniknpaa
open Go.RowKit

structure LJ (W w : World) (B q jb : Nat) (X : JX) (s : FS) (j : JS) : Prop where
  at_ : JAt w B q X s j
  jbe : X.jb = jb
  keeps : Keeps None W w
  le : W.heap.size ≤ B
theorem LJ.later {W w w' : World} {B q jb : Nat} {X : JX} {s : FS} {j : JS} (h : LJ W w B q jb X s j) (k : Keeps None w w') : LJ W w' B q jb X s j := ⟨h.at_.later k, h.jbe, h.keeps.trans k (fun _ h => h) (fun _ _ h => h), h.le⟩
theorem LJ.alloc {W w : World} {B q jb : Nat} {X : JX} {s : FS} {j : JS} (h : LJ W w B q jb X s j) (o : Obj) : LJ W (w.alloc o) B q jb X s j := h.later ((Keeps.refl None w).alloc o)
theorem LJ.drew {W w : World} {B q jb : Nat} {X : JX} {s : FS} {j : JS} (h : LJ W w B q jb X s j) : LJ W w.drew B q jb X s j := h.later (Keeps.refl None w).drew
theorem LJ.next {W w w' : World} {B q jb : Nat} {X X' : JX} {s s' : FS} {j j' : JS} (h : LJ W w B q jb X s j) (t : JTurn w w' B q X X' s' j') : LJ W w' B q jb X' s' j' :=
  ⟨t.at_, t.jb.trans h.jbe, h.keeps.trans t.keeps (fun _ h => h) (fun k hk hS => absurd (h.at_.low k hS) (by have := h.le; omega)), h.le⟩
theorem LJ.lf {W w : World} {B q jb : Nat} {X : JX} {s : FS} {j : JS} (h : LJ W w B q jb X s j) : LF W w B q X.L s := ⟨h.at_.f, h.keeps, h.le, h.at_.hq⟩
/-- A row of records beside a journal. -/
structure Row (w : World) (X : JX) (A : Option Addr) (n cap : Nat) (rs : List RV) : Prop where
  r : Rws w A n cap rs
  ap : ∀ b off, 0 < n → A = some ⟨b, off, none⟩ → ¬ X.S b
  bd : Bds w (fun b => ¬ X.S b) rs
theorem Row.later {w w' : World} {X : JX} {A : Option Addr} {n cap : Nat} {rs : List RV} (h : Row w X A n cap rs) (k : Keeps None w w') : Row w' X A n cap rs := ⟨h.r.later k, h.ap, h.bd.later k⟩
theorem Row.next {w w' : World} {B q : Nat} {X X' : JX} {s' : FS} {j' : JS} {A : Option Addr} {n cap : Nat} {rs : List RV} (h : Row w X A n cap rs) (t : JTurn w w' B q X X' s' j') : Row w' X' A n cap rs := by
  refine ⟨h.r.keeps t.keeps (fun b off hn _ e => h.ap b off hn e), fun b off hn e hS => ?_, ⟨(h.bd.keeps t.keeps (fun b hb _ => hb)).bs, ?_⟩⟩
  · obtain ⟨b', off', e', hb, -⟩ := h.r.at_ hn
    rw [e] at e'
    cases e'
    exact (t.o b hS).elim (h.ap b off hn e) (fun h2 => by omega)
  · intro r hr b hb
    obtain ⟨p1, p2⟩ := h.bd.p r hr b hb
    exact ⟨fun hS => (t.o b hS).elim p1 (fun h2 => by omega), Nat.lt_of_lt_of_le p2 t.keeps.size⟩
/-- A row that lay there when the law began. -/
theorem Row.arg {W w : World} {B q jb : Nat} {X : JX} {s : FS} {j : JS} {A : Option Addr} {n cap : Nat} {rs : List RV} (r : Rws W A n cap rs) (bd : Bds W (fun _ => True) rs) (h : LJ W w B q jb X s j) : Row w X A n cap rs := by
  refine ⟨r.later h.keeps, fun b off hn e hS => ?_, ⟨(bd.later h.keeps).bs, ?_⟩⟩
  · obtain ⟨b', off', e', hb, -⟩ := r.at_ hn
    rw [e] at e'
    cases e'
    have := h.at_.low b hS; have := h.le; omega
  · intro r hr b hb
    have h1 := (bd.p r hr b hb).2
    exact ⟨fun hS => by have := h.at_.low b hS; have := h.le; omega, Nat.lt_of_lt_of_le h1 h.keeps.size⟩
/-- A row beside a journal, where another is opened on the same flash. -/
theorem Row.opened {w w' : World} {X X' : JX} {A : Option Addr} {n cap : Nat} {rs : List RV} (h : Row w X A n cap rs) (hO : ∀ k, X'.S k → X.L.O k ∨ w.heap.size ≤ k) (k : Keeps None w w') : Row w' X' A n cap rs := by
  refine ⟨h.r.later k, fun b off hn e hS => ?_, ⟨(h.bd.later k).bs, fun r hr b hb => ?_⟩⟩
  · obtain ⟨b', off', e', hb, -⟩ := h.r.at_ hn
    rw [e] at e'
    cases e'
    exact (hO b hS).elim (fun h1 => h.ap b off hn e (.inl h1)) (fun h2 => by omega)
  · obtain ⟨p1, p2⟩ := h.bd.p r hr b hb
    exact ⟨fun hS => (hO b hS).elim (fun h1 => p1 (.inl h1)) (fun h2 => by omega), Nat.lt_of_lt_of_le p2 k.size⟩
/-- A deep copy, fresh. -/
theorem Row.copied {w w' : World} {B q : Nat} {X : JX} {s : FS} {j : JS} {v : Value} {rs : List RV} (h : JAt w B q X s j) (c : Copied w w' v rs) : ∃ A cap, v = .slice A rs.length cap ∧ Row w' X A rs.length cap rs := by
  obtain ⟨A, cap, hv, hr, ho⟩ := c.o.shape
  refine ⟨A, cap, hv, hr, fun b off hn e hS => ?_, c.bd.mono (fun b hb _ hS => ?_)⟩
  · have h1 := h.lt b hS
    have h2 := (c.o.block (ho b off e).1).1
    omega
  · have h1 := h.lt b hS
    omega
/-- What a call that opens leaves. -/
def LOpen (W w : World) (B q : Nat) (L : FL) (s : FS) (e : Ending) (w' : World) : Prop := ∃ (X : JX) (jb : Nat), e = .returned (.pointer (some ⟨jb, 0, none⟩)) ∧ LJ W w' B q jb X s (openS s) ∧ (X.L = L ∧ ∀ k, X.S k → L.O k ∨ w.heap.size ≤ k) ∧ Keeps None w w'
def LJDone (W w : World) (B q jb : Nat) (X : JX) (r : FS × JS × Int) (e : Ending) (w' : World) : Prop := e = .returned (.int .i64 r.2.2) ∧ ∃ X', LJ W w' B q jb X' r.1 r.2.1 ∧ JTurn w w' B q X X' r.1 r.2.1
end Go.Proofs.Ytfldgaiiniknpaa
