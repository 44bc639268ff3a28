
/- JournalCuts: where power goes while a record is appended. -/
import Derived.Test.YtfldgaiiniknpaaLCuXJlCut
import Derived.Test.YtfldgaiiniknpaaLCuXJlSame
import Derived.Test.YtfldgaiiniknpaaLCuXJlArg
import Derived.Test.YtfldgaiiniknpaaLCua
import Derived.Test.YtfldgaiiniknpaaLCub
namespace Go.Proofs.Ytfldgaiiniknpaa
open Go.RowKit Go.ChangeShapes Go.WideShapes Go.Deep

theorem ljappendK {W w : World} {B q jb : Nat} {X : JX} {s : FS} {j : JS} {m : Nat} (h : LJ W w B q jb X s j) (ok : JOk j) (rm : JRm s m)
    (kind : Int) {A : Option Addr} {k cap : Nat} {body : List Int} (hb : Bs w A k cap body) (hk : k ≤ 140737488355328) :
    Calls Try.prog 59 #[.pointer (some ⟨jb, 0, none⟩), .int .i64 kind, .slice A k cap] w (LJDone W w B q jb X (appF s j kind body)) := by
  rw [← h.jbe]
  exact (jappend_any B q X s j kind A k cap body w h.at_ ok hb hk (by have := rm.st; omega)).mono fun e w' ⟨h1, X', t⟩ => ⟨h1, X', h.jbe ▸ h.next t, t⟩
/-- The flash alone went on. -/
theorem LJ.flash {W w w' : World} {B q jb : Nat} {X : JX} {s s' : FS} {j : JS} {L' : FL} (h : LJ W w B q jb X s j) (t : Turn w w' B X.L L' s') : LJ W w' B q jb { X with L := L' } s' j ∧ JTurn w w' B q X { X with L := L' } s' j :=
  ⟨h.next (h.at_.turn t), h.at_.turn t⟩
theorem Rws.takeR {w : World} {A : Option Addr} {n cap k : Nat} {rs : List RV} (h : Rws w A n cap rs) (hk : k ≤ n) : Rws w A k cap (rs.take k) :=
  ⟨by rw [List.length_take, h.len]; omega, Nat.le_trans hk h.le, h.max, fun e => ⟨by have := (h.nil e).1; omega, (h.nil e).2⟩, fun hn => by
    obtain ⟨b, off, e, hb, hc⟩ := h.at_ (by omega)
    refine ⟨b, off, e, hb, fun i r hr => hc i r ?_⟩
    rw [List.getElem?_take] at hr
    split at hr
    · exact hr
    · cases hr⟩
theorem Row.takeR {w : World} {X : JX} {A : Option Addr} {n cap k : Nat} {rs : List RV} (h : Row w X A n cap rs) (hk : k ≤ n) : Row w X A k cap (rs.take k) :=
  ⟨h.r.takeR hk, fun b off h0 e => h.ap b off (by omega) e, ⟨fun r hr => h.bd.bs r (List.mem_of_mem_take hr), fun r hr => h.bd.p r (List.mem_of_mem_take hr)⟩⟩
theorem app_again {s : FS} {n e : Nat} {c : Int} {l : List Rec} {T : List Int} {m : Nat} (h : Live s n e c l T (m + 1)) {kind : Int} {body : List Int} (hb : Byt body) (hf : kind ≠ 1 ∧ fitsR kind ((l.length : Int) + 1) body.length) :
    ∃ s' j' er, appF s (keptJ e c l T) kind body = (s', j', er) ∧ (er = 0 ∨ er = 14) := by
  rcases h.app kind body hb with ⟨h1, -⟩ | ⟨-, -, h1⟩ | ⟨s', -, -, -, -, h1, -⟩
  · rcases h1 with h1 | h1
    · exact absurd h1 hf.1
    · exact absurd hf.2 h1
  · exact ⟨_, _, _, h1, .inr rfl⟩
  · exact ⟨_, _, _, h1, .inl rfl⟩
end Go.Proofs.Ytfldgaiiniknpaa
