
/- A journal's calls in a law's world; the law's alive. -/
import Derived.Test.YtfldgaiiniknpaaLCuXJl2
namespace Go.Proofs.Ytfldgaiiniknpaa
open Go.RowKit

section
variable {W w : World} {B q jb : Nat} {X : JX} {s : FS} {j : JS} {n e : Nat} {c : Int} {l : List Rec} {T : List Int} {m : Nat}
theorem ljcompact (h : LJ W w B q jb X s (keptJ e c l T)) (v : Live s n e c l T (m + 1))
    {A : Option Addr} {k cap : Nat} {rs : List RV} {P : Nat → Prop} (hr : Rws w A k cap rs) (hb : Bds w P rs) (hk : k ≤ 100000) (hbl : ∀ r ∈ rs, r.b.length ≤ 140737488355328) :
    Calls Try.prog 60 #[.pointer (some ⟨jb, 0, none⟩), .slice A k cap] w (LJDone W w B q jb X (cmpF s (keptJ e c l T) (rs.map RV.r))) := by
  rw [← h.jbe]
  exact (jcompact_any B q X s (keptJ e c l T) A k cap rs P w h.at_ (by have h1 := h.at_.f.el; rw [v.g.el] at h1; have h2 := v.g.n2; omega) v.keep.ok hr hb hk hbl (v.rm.room 2001 (by decide))).mono fun e w' ⟨h1, X', t⟩ => ⟨h1, X', h.jbe ▸ h.next t, t⟩
theorem ljappend (h : LJ W w B q jb X s (keptJ e c l T)) (v : Live s n e c l T m)
    (kind : Int) {A : Option Addr} {k cap : Nat} {body : List Int} (hb : Bs w A k cap body) (hk : k ≤ 140737488355328) :
    Calls Try.prog 59 #[.pointer (some ⟨jb, 0, none⟩), .int .i64 kind, .slice A k cap] w (LJDone W w B q jb X (appF s (keptJ e c l T) kind body)) := by
  rw [← h.jbe]
  exact (jappend_any B q X s (keptJ e c l T) kind A k cap body w h.at_ v.keep.ok hb hk (by have := v.rm.st; omega)).mono fun e w' ⟨h1, X', t⟩ => ⟨h1, X', h.jbe ▸ h.next t, t⟩
def JAllTold (w : World) (X : JX) (l : List Rec) (e : Ending) (w' : World) : Prop := ∃ A cap rs, e = .returned (.slice A l.length cap) ∧ Row w' X A l.length cap rs ∧ rs.map RV.r = l ∧ Keeps None w w'
theorem ljall (h : LJ W w B q jb X s j) (ok : JOk j) : Calls Try.prog 58 #[.pointer (some ⟨jb, 0, none⟩)] w (JAllTold w X j.l) := by
  rw [← h.jbe]
  refine (jall_any B q X s j w h.at_ (by have := ok.ll; omega) (fun r hr => by have := ok.bl r hr; omega)).mono ?_
  rintro e w' ⟨v, rs', rfl, cp, hm⟩
  obtain ⟨A, cap, rfl, hr⟩ := Row.copied h.at_ cp
  have e : rs'.length = j.l.length := by rw [← hm, List.length_map]
  rw [e] at hr ⊢
  exact ⟨A, cap, rs', rfl, hr, hm, cp.k⟩
theorem ljroom (h : LJ W w B q jb X s j) (ok : JOk j) : Calls Try.prog 67 #[.pointer (some ⟨jb, 0, none⟩)] w (Same (.int .i64 j.room) w) := by rw [← h.jbe]; exact jroom_any B q X s j w h.at_ ok.used
def LJOpen (W w : World) (B q : Nat) (L : FL) (s : FS) (j : JS) (e' : Ending) (w' : World) : Prop := ∃ (X : JX) (jb : Nat), e' = .returned (.pointer (some ⟨jb, 0, none⟩)) ∧ LJ W w' B q jb X s j ∧ (X.L = L ∧ ∀ k, X.S k → L.O k ∨ w.heap.size ≤ k) ∧ Keeps None w w'
end
theorem Rws.none (w : World) : Rws w .none 0 0 [] := ⟨rfl, Nat.le_refl _, by decide, fun _ => ⟨rfl, rfl⟩, fun h => absurd h (Nat.lt_irrefl _)⟩
theorem keptJ_ge {e : Nat} {c : Int} {l : List Rec} {T : List Int} (h : c ≠ -1) : keptJ e c l T = ⟨l, e, c, 16 + (pkL l).length, !blankB T, 0⟩ := if_neg h
theorem keptJ_torn {e : Nat} {c : Int} {l : List Rec} {k : Nat} (h : c ≠ -1) : (keptJ e c l (blk k)).torn = false := by
  rw [keptJ_ge h]
  show (!blankB (blk k)) = false
  rw [show blankB (blk k) = true from blank_rep k]
  rfl
theorem keptJ_room {e : Nat} {c : Int} {l : List Rec} {k : Nat} (h : c ≠ -1) (hk : (pkL l).length + k = 1008) : (keptJ e c l (blk k)).room = k := by
  unfold JS.room
  rw [if_neg]
  · rw [keptJ_ge h]
    show 1024 - ((16 + (pkL l).length : Nat) : Int) = k
    omega
  · rw [keptJ_torn h, keptJ_ge h]
    rintro (h1 | h1)
    · cases h1
    · exact h h1
end Go.Proofs.Ytfldgaiiniknpaa
