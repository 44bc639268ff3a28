
/- The reference's reader: its state in plain words, in memory; the walk of more. -/
import Derived.Test.YtnanbnaikmaljaaLzPXTkUnp
import Derived.Test.YtnanbnaikmaljaaLzPXCodTree2
namespace Go.Proofs.Ytnanbnaikmaljaa
open Go.RowKit

structure RS where
  d : DSt
  zs : List Int
  q1 : List Int
  q2 : List Int
  q3 : List Int
  p0 : Int
  p1 : Int
  was : Int
  bad : Bool
structure RRL where
  db : Nat
  b1 : Nat
  g1 : Nat
  b2 : Nat
  g2 : Nat
  b3 : Nat
  g3 : Nat
  rb : Nat
def rrcells (L : RRL) (A : Option Addr) (n c : Nat) (s : RS) : List Value := [.pointer (some ⟨L.db, 0, none⟩), .slice A n c, .pointer (some ⟨L.b1, 0, none⟩), .pointer (some ⟨L.b2, 0, none⟩), .pointer (some ⟨L.b3, 0, none⟩), .int .i64 s.p0, .int .i64 s.p1, .int .i64 s.was, .bool s.bad]
def RRB (L : RRL) (k : Nat) : Prop := L.db ≤ k ∧ k ≤ L.rb
/-- What is good of it. -/
structure ROkR (s : RS) : Prop where
  dok : DOk s.d
  zb : ∀ z ∈ s.zs, 0 ≤ z ∧ z ≤ 255
  l1 : s.q1.length = 256
  l2 : s.q2.length = 256
  l3 : s.q3.length = 64
  was : s.was = 0 ∨ s.was = 1
def moreF (s : RS) : RS :=
  if s.bad = true then s
  else if s.d.n.toNat ≤ s.zs.length then { s with d := dEat s.d (s.zs.take s.d.n.toNat), zs := s.zs.drop s.d.n.toNat, bad := dLostB (dEat s.d (s.zs.take s.d.n.toNat)) }
  else { s with d := dEat s.d s.zs, zs := [], bad := true }
theorem ROkR.more {s : RS} (h : ROkR s) : ROkR (moreF s) := by
  unfold moreF
  split
  · exact h
  split
  · exact ⟨dEat_ok _ _ (fun z hz => h.zb z (List.mem_of_mem_take hz)) h.dok, fun z hz => h.zb z (List.mem_of_mem_drop hz), h.l1, h.l2, h.l3, h.was⟩
  · exact ⟨dEat_ok _ _ h.zb h.dok, fun z hz => (by cases hz), h.l1, h.l2, h.l3, h.was⟩
end Go.Proofs.Ytnanbnaikmaljaa
