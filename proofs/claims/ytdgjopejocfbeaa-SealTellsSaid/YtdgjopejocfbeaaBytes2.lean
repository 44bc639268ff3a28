
/- More on slices of bytes: a part of one, one that lies under what came in.  -/
import Derived.Test.YtdgjopejocfbeaaBytes
namespace Go.Proofs.Ytdgjopejocfbeaa
open Go.RowKit

theorem take_snoc (l : List Int) (k : Nat) (hk : k < l.length) : l.take k ++ [l[k]] = l.take (k + 1) := by
  rw [List.take_add_one, List.getElem?_eq_getElem hk]; rfl
theorem bs_under {W w : World} {A : Option Addr} {n cap : Nat} {zs : List Int} (h : Bs W A n cap zs) (hb : Below W.heap.size W w) : Bs w A n cap zs :=
  h.later ⟨hb.os, hb.tape, hb.output, hb.size, fun k hk _ => hb.block k hk⟩
/-- A slice's end. -/
theorem Bs.drop {w : World} {b off n cap k : Nat} {zs : List Int} (h : Bs w (some ⟨b, off, none⟩) n cap zs) (hk : k ≤ n) : Bs w (some ⟨b, off + k, none⟩) (n - k) (cap - k) (zs.drop k) := by
  have h1 := h.le
  have h2 := h.max
  refine ⟨by rw [List.length_drop, h.len], by omega, by omega, (fun e => by cases e), fun z hz => h.byte z (List.mem_of_mem_drop hz), fun hn => ?_⟩
  obtain ⟨b', off', e, hb, hc⟩ := h.at_ (by omega)
  cases e
  refine ⟨b, off + k, rfl, hb, fun i hi => ?_⟩
  rw [Nat.add_assoc, hc (k + i) (by omega)]
  simp [List.getD, List.getElem?_drop]

theorem Bs.dropIf {w : World} {b off n cap k : Nat} {zs : List Int} (h : Bs w (some ⟨b, off, none⟩) n cap zs) (hk : k ≤ n) : Bs w (if cap = k then some ⟨b, off, none⟩ else some ⟨b, off + k, none⟩) (n - k) (cap - k) (zs.drop k) := by
  have hd := h.drop hk
  split
  · rename_i e
    have h1 := h.le
    exact ⟨hd.len, hd.le, hd.max, (fun e => by cases e), hd.byte, fun hn => by omega⟩
  · exact hd
theorem Bs.empty (w : World) (a : Addr) (c : Nat) (hc : c ≤ 9223372036854775807) : Bs w (some a) 0 c [] := ⟨rfl, by omega, hc, (fun e => by cases e), (by simp), fun hn => by omega⟩

theorem below_drew1 {B : Nat} {W a : World} (h : Below B W a) : Below B W a.drew := ⟨h.os, h.tape, h.output, h.size, h.block⟩
theorem Bs.take {w : World} {A : Option Addr} {n cap k : Nat} {zs : List Int} (h : Bs w A n cap zs) (hk : k ≤ n) : Bs w A k cap (zs.take k) :=
  ⟨by rw [List.length_take, h.len]; omega, Nat.le_trans hk h.le, h.max, fun e => ⟨by have := (h.nil e).1; omega, (h.nil e).2⟩, fun z hz => h.byte z (List.mem_of_mem_take hz), fun hp => by
    obtain ⟨b, off, e, hb, hc⟩ := h.at_ (by omega)
    exact ⟨b, off, e, hb, fun i hi => by rw [hc i (by omega)]; simp [List.getD, List.getElem?_take, hi]⟩⟩
end Go.Proofs.Ytdgjopejocfbeaa
