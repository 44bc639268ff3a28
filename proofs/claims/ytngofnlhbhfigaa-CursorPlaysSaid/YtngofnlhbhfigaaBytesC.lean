/- The built-in copy into a row that is known whole; a row of bytes cut, laid over. -/
import Derived.Test.YtngofnlhbhfigaaBytes2
import Derived.Laws.CopyOwn
namespace Go.Proofs.Ytngofnlhbhfigaa
open Go.RowKit

theorem Blk.laidRow {w : World} {g : Nat} {cs ds : List Value} {T : TypeId} (h : Blk w g cs T) : Blk (w.setRow g ds.toArray) g ds T := by
  unfold Blk at *
  simp only [World.setRow, Array.getElem?_modify, if_true, h]
  rfl
theorem keeps_laidRow {S : Nat → Prop} {a w : World} {g : Nat} {ds : Array Value} (h : Keeps S a w) (hg : g < a.heap.size → S g) : Keeps S a (w.setRow g ds) := by
  refine ⟨h.os, h.tape, h.output, by simpa [World.setRow] using h.size, fun i hi hn => ?_⟩
  rw [← h.block i hi hn]
  have hne : ¬ g = i := fun e => hn (by subst e; exact hg hi)
  simp [World.setRow, Array.getElem?_modify, hne]
theorem splice_nil {α : Type} (L : List α) (off : Nat) : splice L off [] = L := by simp [splice]
theorem splice_map {α β : Type} (f : α → β) (L : List α) (off : Nat) (X : List α) : (splice L off X).map f = splice (L.map f) off (X.map f) := by simp [splice, List.map_take, List.map_drop]
theorem splice_take {α : Type} (L : List α) (off n : Nat) (X : List α) (h : off + X.length ≤ n) (hn : n ≤ L.length) : (splice L off X).take n = splice (L.take n) off X := by
  simp only [splice]
  rw [List.take_append, List.take_append, List.take_take, List.length_take, List.drop_take, Nat.min_eq_right (by omega), Nat.min_eq_left (by omega), List.take_take, Nat.min_eq_left (by omega), List.take_of_length_le (l := X) (by omega), Nat.sub_sub]
theorem splice_getD (L : List Int) (off : Nat) (X : List Int) (h : off + X.length ≤ L.length) (i : Nat) : (splice L off X).getD i 0 = if off ≤ i ∧ i < off + X.length then X.getD (i - off) 0 else L.getD i 0 := by
  simp only [splice, List.getD]
  by_cases h1 : i < off
  · rw [if_neg (by omega), List.getElem?_append_left (by rw [List.length_take]; omega), List.getElem?_take, if_pos h1]
  · rw [List.getElem?_append_right (by rw [List.length_take]; omega), List.length_take, Nat.min_eq_left (by omega)]
    by_cases h2 : i < off + X.length
    · rw [if_pos ⟨by omega, h2⟩, List.getElem?_append_left (by omega)]
    · rw [if_neg (by omega), List.getElem?_append_right (by omega), List.getElem?_drop]
      congr 2; omega
theorem splice_byte {L X : List Int} {off : Nat} (h1 : ∀ z ∈ L, 0 ≤ z ∧ z ≤ 255) (h2 : ∀ z ∈ X, 0 ≤ z ∧ z ≤ 255) : ∀ z ∈ splice L off X, 0 ≤ z ∧ z ≤ 255 := by
  intro z hz
  simp only [splice, List.mem_append] at hz
  rcases hz with hz | hz | hz
  · exact h1 z (List.mem_of_mem_take hz)
  · exact h2 z hz
  · exact h1 z (List.mem_of_mem_drop hz)
theorem splice_len (L : List Int) (off : Nat) (X : List Int) (h : off + X.length ≤ L.length) : (splice L off X).length = L.length := length_splice L off X h

section
variable {ops : Array Oper} {rest : List Oper} {o : Oper} {a : Act} {Q : Exit → Act → World → Prop} {d s : Operand} {w : World}
theorem wpList_copy_blk {g off dLen dCap m c : Nat} {D A : Option Addr} {ns : List Int} {cs : List Value} {T : TypeId}
    (hgd : o.guard = none) (ho : o.op = .call { callee := .builtin .copy, args := #[d, s], argTypes := #[22, 22] }) (hd : a.eval d = .slice D dLen dCap) (hs : a.eval s = .slice A m c)
    (hD : 0 < min m dLen → D = some ⟨g, off, none⟩) (hb : Blk w g cs T) (hbs : Bs w A m c ns) (hfit : off + min m dLen ≤ cs.length)
    (h : ∀ w', Blk w' g (splice cs off ((ns.take dLen).map (.int .u8))) T → Keeps (fun k => k = g) w w' → wpList Try.prog ops Q rest (a.put o.dst (goInt ((min m dLen : Nat) : Int))) w') : wpList Try.prog ops Q (o :: rest) a w := by
  have hln : ((ns.take dLen).map (Value.int .u8)).length = min m dLen := by rw [List.length_map, List.length_take, hbs.len]; exact Nat.min_comm _ _
  have hi : (Try.prog.info? 5).map (·.size) = some 1 := by
    obtain ⟨i, hi, _, h1, _⟩ := info_parts Try.info5
    rw [hi]; simp [h1]
  by_cases h0 : min m dLen = 0
  · have e : (ns.take dLen).map (Value.int .u8) = [] := List.eq_nil_of_length_eq_zero (by rw [hln]; exact h0)
    have := h w (by rw [e, splice_nil]; exact hb) (Keeps.refl _ _)
    rw [h0] at this
    exact wpList_copy_nothing hgd d s _ _ ho 5 Try.underlying22 hi D A dLen dCap m c hd hs (by show min m dLen = 0; exact h0) this
  · obtain ⟨b, off2, e2, _, hc⟩ := hbs.at_ (by omega)
    have hD' := hD (by omega)
    subst hD'
    subst e2
    have := h (w.setRow g (cs.take off ++ ((ns.take dLen).map (Value.int .u8) ++ cs.drop (off + ((ns.take dLen).map (Value.int .u8)).length))).toArray) hb.laidRow (keeps_laidRow (Keeps.refl _ _) (fun _ => rfl))
    rw [← hln] at this
    refine wpList_copy_own hgd d s _ _ ho 5 Try.underlying22 hi g off dLen dCap ⟨b, off2, none⟩ m c hd hs cs.toArray T hb ((ns.take dLen).map (Value.int .u8)) hln ?_ (by rw [hln]; simpa using hfit) ?_ (by simpa using this)
    · intro j v hv
      have hj : j < (ns.take dLen).length := by
        rcases Nat.lt_or_ge j (ns.take dLen).length with h | h
        · exact h
        · rw [List.getElem?_eq_none (by simpa using h)] at hv; cases hv
      have hj2 : j < min m dLen := by rw [List.length_map] at hln; omega
      have e3 : (⟨b, off2, none⟩ : Addr).add j = ⟨b, off2 + j, none⟩ := by unfold Addr.add; split <;> simp_all
      rw [e3, hc j (by omega), ← hv, map_getD 0 hj]
      simp [List.getD, List.getElem?_take, show j < dLen by omega]
    · intro v hv
      obtain ⟨z, _, rfl⟩ := List.mem_map.1 hv
      rfl

theorem Own.row {B g n cap : Nat} {zs : List Int} (h : Own w B (.slice (some ⟨g, 0, none⟩) n cap) zs) : ∃ cur : List Value, Blk w g cur 5 ∧ cur.length = cap ∧ cur.take n = zs.map (.int .u8) ∧ n = zs.length ∧ n ≤ cap ∧ cap ≤ 9223372036854775807 ∧ B ≤ g := by
  rcases h.1.2 with ⟨e, h0⟩ | ⟨g', cap', cur, e, hb, hg, hn, hm, hs, ht⟩
  · cases e
  · cases e
    refine ⟨cur.toList, ?_, by simpa using hs, by simpa using ht, rfl, hn, by unfold maxLen at hm; omega, hb⟩
    unfold Blk; simpa using hg
theorem Own.ofRow {B g n cap : Nat} {zs : List Int} {cur : List Value} (hb : Blk w g cur 5) (hl : cur.length = cap) (ht : cur.take n = zs.map (.int .u8)) (hn : n = zs.length) (hc : n ≤ cap) (hm : cap ≤ 9223372036854775807) (hB : B ≤ g) (hz : ∀ z ∈ zs, 0 ≤ z ∧ z ≤ 255) :
    Own w B (.slice (some ⟨g, 0, none⟩) n cap) zs := by
  subst hn
  refine ⟨⟨by simp, .inr ⟨g, cap, cur.toArray, rfl, hB, hb, hc, by unfold maxLen; omega, by simpa using hl, by simpa using ht⟩⟩, hz⟩

theorem wpList_copy_bs {B g off n cap dLen dCap m c : Nat} {D A : Option Addr} {zs ns : List Int}
    (hgd : o.guard = none) (ho : o.op = .call { callee := .builtin .copy, args := #[d, s], argTypes := #[22, 22] }) (hd : a.eval d = .slice D dLen dCap) (hs : a.eval s = .slice A m c)
    (hD : 0 < min m dLen → D = some ⟨g, off, none⟩) (hown : Own w B (.slice (some ⟨g, 0, none⟩) n cap) zs) (hbs : Bs w A m c ns) (hfit : off + min m dLen ≤ n)
    (h : ∀ w', Own w' B (.slice (some ⟨g, 0, none⟩) n cap) (splice zs off (ns.take dLen)) → Keeps (fun k => k = g) w w' → wpList Try.prog ops Q rest (a.put o.dst (goInt ((min m dLen : Nat) : Int))) w') : wpList Try.prog ops Q (o :: rest) a w := by
  obtain ⟨cur, h1, h2, h3, h4, h5, h6, h7⟩ := hown.row
  have hl : (ns.take dLen).length = min m dLen := by rw [List.length_take, hbs.len]; exact Nat.min_comm _ _
  refine wpList_copy_blk hgd ho hd hs hD h1 hbs (by omega) fun w' hb hk => h w' ?_ hk
  have hlm : ((ns.take dLen).map (Value.int .u8)).length = min m dLen := by rw [List.length_map]; exact hl
  refine Own.ofRow hb (by rw [length_splice _ _ _ (by rw [hlm]; omega)]; exact h2) ?_ (by rw [splice_len _ _ _ (by rw [hl]; omega)]; exact h4) h5 h6 h7 (splice_byte hown.2 (fun z hz => hbs.byte z (List.mem_of_mem_take hz)))
  rw [splice_take _ _ _ _ (by rw [hlm]; omega) (by omega), h3, splice_map]
end
theorem ownBs {w : World} {X : Nat} {A : Option Addr} {n cap : Nat} {l : List Int} (h : Own w X (.slice A n cap) l) : Bs w A n cap l := by
  obtain ⟨A', cap', e, hb, -⟩ := h.shape
  cases e
  exact hb
end Go.Proofs.Ytngofnlhbhfigaa
