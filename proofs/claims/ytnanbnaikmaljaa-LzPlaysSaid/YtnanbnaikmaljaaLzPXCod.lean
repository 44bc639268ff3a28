
/- The walks of package coder and of the reference's coder. -/
import Derived.Test.YtnanbnaikmaljaaLzPXModel2
import Derived.Test.YtnanbnaikmaljaaLzPa
import Derived.Test.YtnanbnaikmaljaaLzPXDec
namespace Go.Proofs.Ytnanbnaikmaljaa
open Go.RowKit

/-- Where an append's result lies: where its slice lay, or in the next new block. -/
theorem append_block {w : World} {B g cap n : Nat} {zs ns : List Int} {a : Addr} {m c : Nat} {v' : Value} {w' : World} (hown : Own w B (.slice (some ⟨g, 0, none⟩) n cap) zs) (hs : Bs w (some a) m c ns) (hlen : zs.length + m ≤ 1099511627776)
    (hr : (Builtin.append_ #[22, 22] 22 #[.slice (some ⟨g, 0, none⟩) n cap, .slice (some a) m c]).run Try.prog w = .ok v' w') : v'.ownBlock = some g ∨ v'.ownBlock = some w.heap.size := by
  obtain ⟨i, hi, hz0, hz1, hz2⟩ := info_parts Try.info5
  have hcells : ∀ j u, (ns.map (Value.int .u8))[j]? = some u → w.cell? (a.add j) = some u := by
    intro j u hu
    have hj : j < ns.length := by
      rcases Nat.lt_or_ge j ns.length with h | h
      · exact h
      · rw [List.getElem?_eq_none (by simpa using h)] at hu; cases hu
    obtain ⟨b, off, e, _, hc⟩ := hs.at_ (by have := hs.len; omega)
    cases e
    have e2 : (⟨b, off, none⟩ : Addr).add j = ⟨b, off + j, none⟩ := by unfold Addr.add; split <;> simp_all
    rw [e2, hc j (by have := hs.len; omega), ← hu, map_getD 0 hj]
  have hown1 := hown.1
  rcases hown.1.2 with ⟨e, _⟩ | ⟨g', cap', cur, e, hb, hg, hn, hm, hcs, ht⟩
  · cases e
  · cases e
    have hl : (ns.map (Value.int .u8)).length = m * i.size := by rw [hz1, List.length_map, hs.len, Nat.mul_one]
    by_cases hroom : zs.length + m ≤ cap
    · have h1 := run_append_room (P := Try.prog) w 22 22 5 i Try.underlying22 hi g zs.length cap cur hg a m c _ hl hcells (by intro u hu; obtain ⟨z, _, rfl⟩ := List.mem_map.1 hu; rfl) hroom (by rw [hl, hz1, Nat.mul_one, Nat.mul_one, hcs]; omega)
      rw [h1] at hr
      injection hr with e1 e2
      rw [← e1]; exact .inl rfl
    · have h1 := run_append_grow (P := Try.prog) w 22 22 5 i (.int .u8 0) Try.underlying22 hi hz0 ⟨g, 0, none⟩ zs.length cap (zs.map (.int .u8)) (by rw [hz1, List.length_map, Nat.mul_one]) (hown1.cells (g := g) rfl) a m c _ hl hcells (by omega) (by omega) (by rw [hz2]; exact growslice_fits (by omega) (by omega))
      rw [h1] at hr
      injection hr with e1 e2
      rw [← e1]; exact .inr rfl

theorem wpList_append_blk {ops : Array Oper} {rest : List Oper} {o : Oper} {a : Act} {Q : Exit → Act → World → Prop} {s x : Operand} {w : World} {B g n cap : Nat} {zs ns : List Int} {ad : Addr} {m c : Nat}
    (hown : Own w B (.slice (some ⟨g, 0, none⟩) n cap) zs) (hs : Bs w (some ad) m c ns) (hlen : zs.length + m ≤ 1099511627776) (hB : B ≤ w.heap.size) (hg : o.guard = none) (hty : o.type = 22) (ho : o.op = .call { callee := .builtin .append, args := #[s, x], argTypes := #[22, 22] }) (h1 : a.eval s = .slice (some ⟨g, 0, none⟩) n cap) (h2 : a.eval x = .slice (some ad) m c) (hz : 0 < zs.length + m)
    (h : ∀ g' cap' w', (g' = g ∨ w.heap.size ≤ g') → Own w' B (.slice (some ⟨g', 0, none⟩) (zs.length + m) cap') (zs ++ ns) → Keeps (fun k => k = g) w w' → wpList Try.prog ops Q rest (a.put o.dst (.slice (some ⟨g', 0, none⟩) (zs.length + m) cap')) w') : wpList Try.prog ops Q (o :: rest) a w := by
  obtain ⟨v', w', hr, h3, h4, _⟩ := run_append_bs hown hs hlen hB
  have hb := append_block hown hs hlen hr
  refine wpList_append_run hr hg hty ho h1 h2 ?_
  rcases h3.1.2 with ⟨rfl, h0⟩ | ⟨g', cap', cur, e, hbg, hgg, hn, hm, hcs, ht⟩
  · rw [List.length_append, hs.len] at h0; omega
  · have e2 : (zs ++ ns).length = zs.length + m := by rw [List.length_append, hs.len]
    rw [e2] at e
    subst e
    refine h g' cap' w' ?_ h3 (h4.mono fun i _ hi => ?_)
    · rcases hb with hb | hb
      · exact .inl (by simpa [Value.ownBlock] using hb)
      · exact .inr (by have : g' = w.heap.size := by simpa [Value.ownBlock] using hb
                       omega)
    · simpa [Value.ownBlock, eq_comm] using hi

/-! ### The number that is added to low, from the last byte on -/
def addTo : Nat → List Int → Int → List Int
  | 0, l, _ => l
  | j + 1, l, n => if 0 < n then addTo j (l.set j ((n + l.getD j 0) % 256)) ((n + l.getD j 0) / 256) else l
def addL (l : List Int) (n : Int) : List Int := addTo l.length l n
theorem addTo_length (j : Nat) : ∀ (l : List Int) (n : Int), (addTo j l n).length = l.length := by
  induction j with
  | zero => intro l n; rfl
  | succ j ih =>
    intro l n
    unfold addTo
    split
    · rw [ih, List.length_set]
    · rfl
theorem addL_length (l : List Int) (n : Int) : (addL l n).length = l.length := addTo_length _ _ _

/-- A coder: its low's bytes in block g. -/
def CAt (w : World) (b g : Nat) (T : TypeId) (l : List Int) (wd : Int) : Prop :=
  ∃ cap, Blk w b [.slice (some ⟨g, 0, none⟩) l.length cap, .int .u64 wd] T ∧ Own w 0 (.slice (some ⟨g, 0, none⟩) l.length cap) l ∧ b ≠ g
theorem CAt.keeps {w w' : World} {S : Nat → Prop} {b g : Nat} {T : TypeId} {l : List Int} {wd : Int} (h : CAt w b g T l wd) (hk : Keeps S w w') (h1 : ¬ S b) (h2 : ¬ S g) : CAt w' b g T l wd := by
  obtain ⟨cap, hb, ho, hne⟩ := h
  exact ⟨cap, hk.blk hb h1, ho.keeps hk (fun x hx e => by
    have : g = x := by simpa [Value.ownBlock] using hx
    subst this; exact h2 e), hne⟩
theorem CAt.drewN {w : World} {b g : Nat} {T : TypeId} {l : List Int} {wd : Int} (h : CAt w b g T l wd) (n : Nat) : CAt (w.drewN n) b g T l wd := h
theorem CAt.drew {w : World} {b g : Nat} {T : TypeId} {l : List Int} {wd : Int} (h : CAt w b g T l wd) : CAt w.drew b g T l wd := h
theorem CAt.ltg {w : World} {b g : Nat} {T : TypeId} {l : List Int} {wd : Int} (h : CAt w b g T l wd) : g < w.heap.size := by
  obtain ⟨cap, _, ho, _⟩ := h
  exact (ho.1.lt g rfl).2
theorem CAt.ltb {w : World} {b g : Nat} {T : TypeId} {l : List Int} {wd : Int} (h : CAt w b g T l wd) : b < w.heap.size := by
  obtain ⟨cap, hb, _, _⟩ := h; exact hb.lt

theorem addTo_step {i : Nat} {l : List Int} {m : Int} (h : 0 < m) : addTo (i + 1) l m = addTo i (l.set i ((m + l.getD i 0) % 256)) ((m + l.getD i 0) / 256) := by
  rw [addTo]; exact if_pos h
theorem addTo_stop {j : Nat} {l : List Int} {m : Int} (h : ¬ 0 < m) : addTo j l m = l := by
  cases j with
  | zero => rfl
  | succ j => rw [addTo]; exact if_neg h

/-- A coder after a step: its bytes lie where they lay, or in a new block. -/
def CMoved (w : World) (b g : Nat) (T : TypeId) (l : List Int) (wd : Int) (w' : World) : Prop := ∃ g', (g' = g ∨ w.heap.size ≤ g') ∧ CAt w' b g' T l wd ∧ Keeps (fun k => k = b ∨ k = g) w w'
/-- Low and width, made greater where width is too narrow. -/
def cStrL (l : List Int) (wd : Int) : List Int := if wd < 16777216 then l ++ [0] else l
theorem CMoved.of {w w1 w2 : World} {b g : Nat} {T : TypeId} {l : List Int} {wd : Int} (h : CMoved w1 b g T l wd w2) (k : Keeps (fun k => k = b ∨ k = g) w w1) : CMoved w b g T l wd w2 := by
  obtain ⟨g', h1, h2, h3⟩ := h
  exact ⟨g', by have := k.size; omega, h2, k.trans h3 (fun _ h => h) (fun _ _ h => h)⟩
/-- What a bit comes to. -/
def cBd (wd p : Int) : Int := wd / 2048 * hold p
def cBitL (l : List Int) (wd p bit : Int) : List Int := if bit = 0 then cStrL l (cBd wd p) else cStrL (addL l (cBd wd p)) (wd - cBd wd p)
def cBitW (wd p bit : Int) : Int := if bit = 0 then strW (cBd wd p) else strW (wd - cBd wd p)
def cHalfL (l : List Int) (wd bit : Int) : List Int := if bit = 0 then cStrL l (wd / 2) else cStrL (addL l (wd / 2)) (wd / 2)
def cHalfW (wd : Int) : Int := strW (wd / 2)
theorem cBd_bd (wd p : Int) (h0 : 0 ≤ wd) (h1 : wd < 4294967296) : 0 ≤ wd / 2048 ∧ wd / 2048 ≤ 2097151 ∧ 0 ≤ wd / 2048 * hold p ∧ wd / 2048 * hold p ≤ wd ∧ wd / 2048 * hold p < 4294967296 := by
  have a1 := hold_lo p
  have a2 := hold_hi p
  have h3 : 0 ≤ wd / 2048 := by omega
  have h4 : wd / 2048 * hold p ≤ wd / 2048 * 2017 := Int.mul_le_mul_of_nonneg_left a2 h3
  have h5 : 0 ≤ wd / 2048 * hold p := Int.mul_nonneg h3 (by omega)
  omega
theorem CAt.width {w : World} {b g : Nat} {T : TypeId} {l : List Int} {wd : Int} (h : CAt w b g T l wd) (v : Int) : CAt (w.setCell ⟨b, 1, none⟩ (.int .u64 v)) b g T l v := by
  obtain ⟨cap, hb, ho, hne⟩ := h
  exact ⟨cap, hb.set 1 _, ho.keeps ((Keeps.self b w).put 1 (.int .u64 v)) (fun x hx e => by
    have : g = x := by simpa [Value.ownBlock] using hx
    omega), hne⟩
theorem CAt.cellW {w : World} {b g : Nat} {T : TypeId} {l : List Int} {wd : Int} (h : CAt w b g T l wd) : w.cell? ⟨b, 1, none⟩ = some (.int .u64 wd) := by
  obtain ⟨cap, hb, _, _⟩ := h; exact hb.cellD 1 _ rfl
theorem CAt.frozenW {w : World} {b g : Nat} {T : TypeId} {l : List Int} {wd : Int} (h : CAt w b g T l wd) : w.frozen? ⟨b, 1, none⟩ = false := by
  obtain ⟨cap, hb, _, _⟩ := h; exact hb.frozen 1

-- #1 name, #2 function, #3 type, #4 hold's function, #5 hold's law, #6 adapt's function, #7 adapt's law, #8 add's, #9 stretch's
end Go.Proofs.Ytnanbnaikmaljaa
