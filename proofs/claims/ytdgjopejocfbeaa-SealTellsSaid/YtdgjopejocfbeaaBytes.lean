
/- Slices of bytes: one that reads as a row of numbers; one that the call itself made; append and slices.Clone. -/
import Derived.Test.YtdgjopejocfbeaaMix
namespace Go.Proofs.Ytdgjopejocfbeaa
open Go.RowKit

/-- A slice that reads as the bytes zs. -/
structure Bs (w : World) (A : Option Addr) (n cap : Nat) (zs : List Int) : Prop where
  len : zs.length = n
  le : n ≤ cap
  max : cap ≤ 9223372036854775807
  nil : A = none → n = 0 ∧ cap = 0
  byte : ∀ z ∈ zs, 0 ≤ z ∧ z ≤ 255
  at_ : 0 < n → ∃ b off, A = some ⟨b, off, none⟩ ∧ b < w.heap.size ∧ ∀ i, i < n → w.cell? ⟨b, off + i, none⟩ = some (.int .u8 (zs.getD i 0))

theorem byte_getD {zs : List Int} (h : ∀ z ∈ zs, 0 ≤ z ∧ z ≤ 255) (i : Nat) : 0 ≤ zs.getD i 0 ∧ zs.getD i 0 ≤ 255 := by
  by_cases hi : i < zs.length
  · exact h _ (getD_mem 0 hi)
  · simp [List.getD, List.getElem?_eq_none (show zs.length ≤ i by omega)]

theorem Bs.keeps {w w' : World} {A : Option Addr} {n cap : Nat} {zs : List Int} {S : Nat → Prop} (h : Bs w A n cap zs) (hk : Keeps S w w') (hS : ∀ b off, 0 < n → b < w.heap.size → A = some ⟨b, off, none⟩ → ¬ S b) : Bs w' A n cap zs :=
  ⟨h.len, h.le, h.max, h.nil, h.byte, fun hn => by
    obtain ⟨b, off, e, hb, hc⟩ := h.at_ hn
    exact ⟨b, off, e, Nat.lt_of_lt_of_le hb hk.size, fun i hi => (hk.cell (p := ⟨b, off + i, none⟩) hb (hS b off hn hb e)).trans (hc i hi)⟩⟩
theorem Bs.drewN {w : World} {A : Option Addr} {n cap : Nat} {zs : List Int} (h : Bs w A n cap zs) (k : Nat) : Bs (w.drewN k) A n cap zs := ⟨h.len, h.le, h.max, h.nil, h.byte, h.at_⟩
theorem Bs.drew {w : World} {A : Option Addr} {n cap : Nat} {zs : List Int} (h : Bs w A n cap zs) : Bs w.drew A n cap zs := ⟨h.len, h.le, h.max, h.nil, h.byte, h.at_⟩
theorem Bs.alloc {w : World} {A : Option Addr} {n cap : Nat} {zs : List Int} (h : Bs w A n cap zs) (o : Obj) : Bs (w.alloc o) A n cap zs :=
  h.keeps (S := None) ((Keeps.refl _ _).alloc o) (fun _ _ _ _ _ h => h)
theorem Bs.later {w w' : World} {A : Option Addr} {n cap : Nat} {zs : List Int} (h : Bs w A n cap zs) (hk : Keeps (fun b => w.heap.size ≤ b) w w') : Bs w' A n cap zs :=
  h.keeps hk (fun _ _ _ hb _ hs => by omega)
/-- One byte of it. -/
theorem Bs.get {w : World} {A : Option Addr} {n cap : Nat} {zs : List Int} (h : Bs w A n cap zs) {i : Nat} (hi : i < n) :
    ∃ b off z, A = some ⟨b, off, none⟩ ∧ zs.getD i 0 = z ∧ 0 ≤ z ∧ z ≤ 255 ∧ w.cell? ⟨b, off + i, none⟩ = some (.int .u8 z) := by
  obtain ⟨b, off, e, _, hc⟩ := h.at_ (by omega)
  have hb := h.byte _ (getD_mem 0 (show i < zs.length by have := h.len; omega))
  exact ⟨b, off, _, e, rfl, hb.1, hb.2, hc i hi⟩

/-- A slice of bytes of the call's own, from block B on. -/
def Own (w : World) (B : Nat) (v : Value) (zs : List Int) : Prop := w.ownsRow B 5 1 v zs.length (zs.map (.int .u8)) ∧ ∀ z ∈ zs, 0 ≤ z ∧ z ≤ 255

theorem Own.nil (w : World) (B : Nat) : Own w B (.slice none 0 0) [] := ⟨World.ownsRow_nil _ _ _ _, by simp⟩
theorem Own.shape {w : World} {B : Nat} {v : Value} {zs : List Int} (h : Own w B v zs) : ∃ A cap, v = .slice A zs.length cap ∧ Bs w A zs.length cap zs ∧ (∀ b off, A = some ⟨b, off, none⟩ → B ≤ b ∧ b < w.heap.size ∧ off = 0) := by
  rcases h.1.2 with ⟨rfl, h0⟩ | ⟨g, cap, cur, rfl, hb, hg, hn, hm, hs, ht⟩
  · refine ⟨none, 0, by rw [h0], ⟨rfl, by omega, by omega, fun _ => ⟨h0, rfl⟩, h.2, fun hn => by omega⟩, fun _ _ e => by cases e⟩
  · have hlt := (Array.getElem?_eq_some_iff.1 hg).1
    refine ⟨some ⟨g, 0, none⟩, cap, rfl, ⟨rfl, hn, by unfold maxLen at hm; omega, (fun e => by cases e), h.2, fun _ => ⟨g, 0, rfl, hlt, fun i hi => ?_⟩⟩, fun b off e => ?_⟩
    · have := h.1.cells (g := g) rfl i (.int .u8 (zs.getD i 0)) (map_getD 0 hi)
      have e2 : (⟨g, 0, none⟩ : Addr).add i = ⟨g, 0 + i, none⟩ := by unfold Addr.add; split <;> simp_all
      rwa [e2] at this
    · cases e; exact ⟨hb, hlt, rfl⟩
theorem Own.frozen {w : World} {B : Nat} {zs : List Int} {g n cap : Nat} {v : Value} (h : Own w B v zs) (hv : v = .slice (some ⟨g, 0, none⟩) n cap) (j : Nat) : w.frozen? ⟨g, j, none⟩ = false := by
  subst hv
  rcases h.1.2 with ⟨e, _⟩ | ⟨g', cap', cur, e, hb, hg, _⟩
  · cases e
  · cases e
    simp [World.frozen?, hg]
theorem Own.keeps {w w' : World} {B : Nat} {v : Value} {zs : List Int} {S : Nat → Prop} (h : Own w B v zs) (hk : Keeps S w w') (hS : ∀ b, v.ownBlock = some b → ¬ S b) : Own w' B v zs := by
  refine ⟨⟨h.1.1, ?_⟩, h.2⟩
  rcases h.1.2 with hn | ⟨g, cap, cur, rfl, hb, hg, rest⟩
  · exact .inl hn
  · refine .inr ⟨g, cap, cur, rfl, hb, ?_, rest⟩
    rw [hk.block g (Array.getElem?_eq_some_iff.1 hg).1 (hS g rfl)]; exact hg
theorem Own.drewN {w : World} {B : Nat} {v : Value} {zs : List Int} (h : Own w B v zs) (k : Nat) : Own (w.drewN k) B v zs := h
theorem Own.drew {w : World} {B : Nat} {v : Value} {zs : List Int} (h : Own w B v zs) : Own w.drew B v zs := h
theorem Own.alloc {w : World} {B : Nat} {v : Value} {zs : List Int} (h : Own w B v zs) (o : Obj) : Own (w.alloc o) B v zs := ⟨h.1.alloc o, h.2⟩
theorem Own.lower {w : World} {B B' : Nat} {v : Value} {zs : List Int} (h : Own w B v zs) (hB : B' ≤ B) : Own w B' v zs := by
  refine ⟨⟨h.1.1, ?_⟩, h.2⟩
  rcases h.1.2 with hn | ⟨g, cap, cur, e, hb, rest⟩
  · exact .inl hn
  · exact .inr ⟨g, cap, cur, e, Nat.le_trans hB hb, rest⟩
theorem Own.at_ {w : World} {B : Nat} {A : Option Addr} {n cap : Nat} {zs : List Int} (h : Own w B (.slice A n cap) zs) {k : Nat} (hk : k < n) :
    ∃ g, A = some ⟨g, 0, none⟩ ∧ B ≤ g ∧ g < w.heap.size ∧ n = zs.length ∧ n ≤ cap ∧ cap ≤ 9223372036854775807 ∧ w.cell? ⟨g, k, none⟩ = some (.int .u8 (zs.getD k 0)) ∧ w.frozen? ⟨g, k, none⟩ = false := by
  rcases h.1.2 with ⟨e, h0⟩ | ⟨g, cap', cur, e, hb, hg, hn, hm, hs, ht⟩
  · cases e; omega
  · cases e
    have hlt := (Array.getElem?_eq_some_iff.1 hg).1
    have hc := h.1.cells (g := g) rfl k (.int .u8 (zs.getD k 0)) (map_getD 0 hk)
    have e2 : (⟨g, 0, none⟩ : Addr).add k = ⟨g, k, none⟩ := by unfold Addr.add; split <;> simp_all
    rw [e2] at hc
    exact ⟨g, rfl, hb, hlt, rfl, hn, by unfold maxLen at hm; omega, hc, by simp [World.frozen?, hg]⟩
theorem Own.len {w : World} {B : Nat} {A : Option Addr} {n cap : Nat} {zs : List Int} (h : Own w B (.slice A n cap) zs) : n = zs.length := by
  rcases h.1.2 with ⟨e, h0⟩ | ⟨g, cap', cur, e, _⟩
  · cases e; exact h0.symm
  · cases e; rfl
theorem Own.notBelow {w : World} {B : Nat} {v : Value} {zs : List Int} (h : Own w B v zs) {i : Nat} (hi : i < B) : ¬ v.ownBlock = some i := by
  rcases h.1.2 with ⟨rfl, _⟩ | ⟨g, cap, cur, rfl, hb, _⟩
  · intro e; cases e
  · intro e
    have e2 : g = i := by simpa [Value.ownBlock] using e
    omega
/-- A byte stored into it. -/
theorem Own.store {w : World} {B : Nat} {zs : List Int} {g n cap : Nat} {v : Value} (h : Own w B v zs) (hv : v = .slice (some ⟨g, 0, none⟩) n cap) (j : Nat) (z : Int) (hz : 0 ≤ z ∧ z ≤ 255) (hj : j < zs.length) :
    Own (w.setCell ⟨g, j, none⟩ (.int .u8 z)) B v (zs.set j z) := by
  subst hv
  have hn : n = zs.length := by
    rcases h.1.2 with ⟨e, _⟩ | ⟨_, _, _, e, _⟩
    · cases e
    · cases e; rfl
  subst hn
  refine ⟨?_, fun y hy => ?_⟩
  · have := (h.1.stored j (.int .u8 z)).1
    rw [List.length_set, List.map_set]
    exact this
  · rcases List.mem_or_eq_of_mem_set hy with hy | rfl
    · exact h.2 y hy
    · exact hz

theorem Try.info5 : (Try.prog.info? 5).map (fun i => (i.zero, i.size, i.bytes)) = some (some (.int .u8 0), 1, 1) := by kernel_rfl

theorem run_append_bs {w : World} {B : Nat} {v : Value} {zs ns : List Int} {A : Option Addr} {m c : Nat} (hown : Own w B v zs) (hs : Bs w A m c ns) (hlen : zs.length + m ≤ 1099511627776) (hB : B ≤ w.heap.size) :
    ∃ v' w', (Builtin.append_ #[22, 22] 22 #[v, .slice A m c]).run Try.prog w = .ok v' w' ∧ Own w' B v' (zs ++ ns) ∧ Keeps (fun k => v.ownBlock = some k) w w' ∧ (v' = .slice none 0 0 → zs ++ ns = []) := by
  obtain ⟨i, hi, hz0, hz1, hz2⟩ := info_parts Try.info5
  cases A with
  | none =>
    obtain ⟨rfl, rfl⟩ := hs.nil rfl
    have e : ns = [] := List.eq_nil_of_length_eq_zero hs.len
    subst e
    refine ⟨v, w, run_append_owned_none (P := Try.prog) w B 22 22 5 i 1 Try.underlying22 hi v _ _ hown.1, by rw [List.append_nil]; exact hown, Keeps.refl _ _, fun hv => ?_⟩
    rcases hown.1.2 with ⟨_, h0⟩ | ⟨g, cap, cur, e, _⟩
    · rw [List.append_nil]; exact List.eq_nil_of_length_eq_zero h0
    · rw [hv] at e; cases e
  | some a =>
    have hcells : ∀ j u, (ns.map (Value.int .u8))[j]? = some u → w.cell? (a.add j) = some u := by
      intro j u hu
      have hj : j < ns.length := by
        rcases Nat.lt_or_ge j ns.length with h | h
        · exact h
        · rw [List.getElem?_eq_none (by simpa using h)] at hu; cases hu
      obtain ⟨b, off, e, _, hc⟩ := hs.at_ (by have := hs.len; omega)
      cases e
      have e2 : (⟨b, off, none⟩ : Addr).add j = ⟨b, off + j, none⟩ := by unfold Addr.add; split <;> simp_all
      rw [e2, hc j (by have := hs.len; omega), ← hu, map_getD 0 hj]
    obtain ⟨v', w', hr, ho, hg, hnil⟩ := run_append_own (P := Try.prog) w B 22 22 5 i (.int .u8 0) 1 1 Try.underlying22 hi hz0 hz1 hz2 rfl (by decide) v zs.length (zs.map (.int .u8)) hown.1 a m c (ns.map (.int .u8)) (by simp [hs.len]) hcells
      (by intro u hu; obtain ⟨z, _, rfl⟩ := List.mem_map.1 hu; rfl) (by unfold maxLen; omega) (by omega) hB
    refine ⟨v', w', hr, ⟨?_, ?_⟩, (Keeps.refl _ w).grown hg (fun k hk _ => hk), fun hv => ?_⟩
    · rw [List.length_append, hs.len, List.map_append]; exact ho
    · intro z hz
      rcases List.mem_append.1 hz with hz | hz
      · exact hown.2 z hz
      · exact hs.byte z hz
    · obtain ⟨e1, e2⟩ := hnil.1 hv
      have h0 : zs.length = 0 := by
        rcases hown.1.2 with ⟨_, h0⟩ | ⟨g, cap, cur, e, _⟩
        · exact h0
        · rw [e1] at e; cases e
      have : ns.length = 0 := by rw [hs.len]; exact e2
      rw [List.eq_nil_of_length_eq_zero h0, List.eq_nil_of_length_eq_zero this]; rfl

theorem wpList_append_bs {ops : Array Oper} {rest : List Oper} {o : Oper} {a : Act} {Q : Exit → Act → World → Prop} {s x : Operand} {w : World} {B : Nat} {v : Value} {zs ns : List Int} {A : Option Addr} {m c : Nat}
    (hown : Own w B v zs) (hs : Bs w A m c ns) (hlen : zs.length + m ≤ 1099511627776) (hB : B ≤ w.heap.size) (hg : o.guard = none) (hty : o.type = 22) (ho : o.op = .call { callee := .builtin .append, args := #[s, x], argTypes := #[22, 22] }) (h1 : a.eval s = v) (h2 : a.eval x = .slice A m c)
    (h : ∀ v' w', Own w' B v' (zs ++ ns) → Keeps (fun k => v.ownBlock = some k) w w' → wpList Try.prog ops Q rest (a.put o.dst v') w') : wpList Try.prog ops Q (o :: rest) a w := by
  obtain ⟨v', w', hr, h3, h4, _⟩ := run_append_bs hown hs hlen hB
  exact wpList_append_run hr hg hty ho h1 h2 (h v' w' h3 h4)

/-- A slice of one byte that the text itself lays. -/
theorem Bs.oneAt (w : World) (b : Nat) (hb : b = w.heap.size) (z : Int) (hz : 0 ≤ z ∧ z ≤ 255) : Bs (w.alloc (.cells #[.int .u8 z] 5)) (some ⟨b, 0, none⟩) 1 1 [z] := by
  subst hb
  exact ⟨rfl, Nat.le_refl _, by decide, (fun e => by cases e), (fun y hy => by rw [List.mem_singleton.1 hy]; exact hz), fun _ => ⟨w.heap.size, 0, rfl, by simp, fun i hi => by
    obtain rfl : i = 0 := by omega
    simp⟩⟩

/-- The string of these bytes. -/
def strOf (zs : List Int) : ByteArray := zs.foldl (fun r n => r.push (UInt8.ofNat n.toNat)) ByteArray.empty

theorem run_str {w : World} {A : Option Addr} {n cap : Nat} {zs : List Int} (h : Bs w A n cap zs) : (convert 22 9 (.slice A n cap)).run Try.prog w = .ok (.string (strOf zs)) w := by
  rw [run_convert_bytes_string w 22 9 5 A n cap Try.underlying22 Try.underlying5 Try.underlying9]
  cases A with
  | none =>
    obtain ⟨rfl, rfl⟩ := h.nil rfl
    have e : zs = [] := List.eq_nil_of_length_eq_zero h.len
    subst e
    rfl
  | some a =>
    refine run_bytesToString w a n cap zs ?_
    have hl := h.len
    have := run_loadCells_list (P := Try.prog) (w := w) a (zs.map (.int .u8)) (fun j v hv => by
      have hj : j < zs.length := by
        rcases Nat.lt_or_ge j zs.length with h' | h'
        · exact h'
        · rw [List.getElem?_eq_none (by simpa using h')] at hv; cases hv
      obtain ⟨b, off, e, _, hc⟩ := h.at_ (by omega)
      cases e
      have e2 : (⟨b, off, none⟩ : Addr).add j = ⟨b, off + j, none⟩ := by unfold Addr.add; split <;> simp_all
      rw [e2, hc j (by omega), ← hv, map_getD 0 hj])
    rw [List.length_map, hl] at this
    exact this

/-- What Clone gives. -/
def Cloned (w : World) (zs : List Int) (e : Ending) (w' : World) : Prop := ∃ v, e = .returned v ∧ Own w' w.heap.size v zs ∧ Keeps None w w'

set_option maxRecDepth 100000 in
set_option maxHeartbeats 400000 in
theorem clone_any (A : Option Addr) (n cap : Nat) (zs : List Int) (w : World) (h : Bs w A n cap zs) (hn : n ≤ 1099511627776) :
    Calls Try.prog 32 #[.slice A n cap] w (Cloned w zs) := by
  have hnil := fun w => Lib.run_eql_slice_nil (P := Try.prog) w 22 5 A n cap 0 0 Try.underlying22
  cases A with
  | none =>
    obtain ⟨rfl, rfl⟩ := h.nil rfl
    have e : zs = [] := List.eq_nil_of_length_eq_zero h.len
    subst e
    go_enter Try.func32, Try.ntmps32
    go_wp2
    go_ret
    exact ⟨_, rfl, Own.nil _ _, Keeps.refl _ _⟩
  | some a =>
    have hown : Own (w.alloc (.cells #[] 5)) w.heap.size (.slice (some ⟨w.heap.size, 0, none⟩) 0 0) [] := ⟨World.ownsRow_made w #[] 0 (Nat.le_refl _) (by unfold maxLen; omega) rfl, by simp⟩
    obtain ⟨v', w', hr, ho, hk, _⟩ := run_append_bs hown (h.alloc (.cells #[] 5)) (by simpa using hn) (by simp)
    rw [List.nil_append] at ho
    have k2 : Keeps None w w' := ((Keeps.refl None w).alloc _).trans hk (fun _ h => h) (fun i hi h => by simp [Value.ownBlock] at h; omega)
    go_enter Try.func32, Try.ntmps32
    go_wp2_with (at_builtin; refine wpList_append_run hr rfl rfl rfl rfl rfl ?_)
    go_ret
    exact ⟨_, rfl, ho, k2⟩
end Go.Proofs.Ytdgjopejocfbeaa
