/- The walks of package coder and of the reference's coder. -/
import Derived.Test.YtggjdkkobhefeaaModel2
import Derived.Test.YtggjdkkobhefeaaBytes2
import Derived.Test.YtggjdkkobhefeaaMix2
import Derived.Test.YtggjdkkobhefeaaDec
namespace Go.Proofs.Ytggjdkkobhefeaa
open Go.RowKit

/-- Where an append's result lies: where its slice lay, or in the next new block. -/
theorem append_block {w : World} {B g cap n : Nat} {zs ns : List Int} {a : Addr} {m c : Nat} {v' : Value} {w' : World} (hown : Own w B (.slice (some ⟨g, 0, none⟩) n cap) zs) (hs : Bs w (some a) m c ns) (hlen : zs.length + m ≤ 1099511627776)
    (hr : (Builtin.append_ #[32, 32] 32 #[.slice (some ⟨g, 0, none⟩) n cap, .slice (some a) m c]).run Try.prog w = .ok v' w') : v'.ownBlock = some g ∨ v'.ownBlock = some w.heap.size := by
  obtain ⟨i, hi, hz0, hz1, hz2⟩ := info_parts Try.info5
  have hcells : ∀ j u, (ns.map (Value.int .u8))[j]? = some u → w.cell? (a.add j) = some u := by
    intro j u hu
    have hj : j < ns.length := by
      rcases Nat.lt_or_ge j ns.length with h | h
      · exact h
      · rw [List.getElem?_eq_none (by simpa using h)] at hu; cases hu
    obtain ⟨b, off, e, _, hc⟩ := hs.at_ (by have := hs.len; omega)
    cases e
    have e2 : (⟨b, off, none⟩ : Addr).add j = ⟨b, off + j, none⟩ := by unfold Addr.add; split <;> simp_all
    rw [e2, hc j (by have := hs.len; omega), ← hu, map_getD 0 hj]
  have hown1 := hown.1
  rcases hown.1.2 with ⟨e, _⟩ | ⟨g', cap', cur, e, hb, hg, hn, hm, hcs, ht⟩
  · cases e
  · cases e
    have hl : (ns.map (Value.int .u8)).length = m * i.size := by rw [hz1, List.length_map, hs.len, Nat.mul_one]
    by_cases hroom : zs.length + m ≤ cap
    · have h1 := run_append_room (P := Try.prog) w 32 32 5 i Try.underlying32 hi g zs.length cap cur hg a m c _ hl hcells (by intro u hu; obtain ⟨z, _, rfl⟩ := List.mem_map.1 hu; rfl) hroom (by rw [hl, hz1, Nat.mul_one, Nat.mul_one, hcs]; omega)
      rw [h1] at hr
      injection hr with e1 e2
      rw [← e1]; exact .inl rfl
    · have h1 := run_append_grow (P := Try.prog) w 32 32 5 i (.int .u8 0) Try.underlying32 hi hz0 ⟨g, 0, none⟩ zs.length cap (zs.map (.int .u8)) (by rw [hz1, List.length_map, Nat.mul_one]) (hown1.cells (g := g) rfl) a m c _ hl hcells (by omega) (by omega) (by rw [hz2]; exact growslice_fits (by omega) (by omega))
      rw [h1] at hr
      injection hr with e1 e2
      rw [← e1]; exact .inr rfl

theorem wpList_append_blk {ops : Array Oper} {rest : List Oper} {o : Oper} {a : Act} {Q : Exit → Act → World → Prop} {s x : Operand} {w : World} {B g n cap : Nat} {zs ns : List Int} {ad : Addr} {m c : Nat}
    (hown : Own w B (.slice (some ⟨g, 0, none⟩) n cap) zs) (hs : Bs w (some ad) m c ns) (hlen : zs.length + m ≤ 1099511627776) (hB : B ≤ w.heap.size) (hg : o.guard = none) (hty : o.type = 32) (ho : o.op = .call { callee := .builtin .append, args := #[s, x], argTypes := #[32, 32] }) (h1 : a.eval s = .slice (some ⟨g, 0, none⟩) n cap) (h2 : a.eval x = .slice (some ad) m c) (hz : 0 < zs.length + m)
    (h : ∀ g' cap' w', (g' = g ∨ w.heap.size ≤ g') → Own w' B (.slice (some ⟨g', 0, none⟩) (zs.length + m) cap') (zs ++ ns) → Keeps (fun k => k = g) w w' → wpList Try.prog ops Q rest (a.put o.dst (.slice (some ⟨g', 0, none⟩) (zs.length + m) cap')) w') : wpList Try.prog ops Q (o :: rest) a w := by
  obtain ⟨v', w', hr, h3, h4, _⟩ := run_append_bs hown hs hlen hB
  have hb := append_block hown hs hlen hr
  refine wpList_append_run hr hg hty ho h1 h2 ?_
  rcases h3.1.2 with ⟨rfl, h0⟩ | ⟨g', cap', cur, e, hbg, hgg, hn, hm, hcs, ht⟩
  · rw [List.length_append, hs.len] at h0; omega
  · have e2 : (zs ++ ns).length = zs.length + m := by rw [List.length_append, hs.len]
    rw [e2] at e
    subst e
    refine h g' cap' w' ?_ h3 (h4.mono fun i _ hi => ?_)
    · rcases hb with hb | hb
      · exact .inl (by simpa [Value.ownBlock] using hb)
      · exact .inr (by have : g' = w.heap.size := by simpa [Value.ownBlock] using hb
                       omega)
    · simpa [Value.ownBlock, eq_comm] using hi

/-! ### The number that is added to low, from the last byte on -/
def addTo : Nat → List Int → Int → List Int
  | 0, l, _ => l
  | j + 1, l, n => if 0 < n then addTo j (l.set j ((n + l.getD j 0) % 256)) ((n + l.getD j 0) / 256) else l
def addL (l : List Int) (n : Int) : List Int := addTo l.length l n
theorem addTo_length (j : Nat) : ∀ (l : List Int) (n : Int), (addTo j l n).length = l.length := by
  induction j with
  | zero => intro l n; rfl
  | succ j ih =>
    intro l n
    unfold addTo
    split
    · rw [ih, List.length_set]
    · rfl
theorem addL_length (l : List Int) (n : Int) : (addL l n).length = l.length := addTo_length _ _ _

/-- A coder: its low's bytes in block g. -/
def CAt (w : World) (b g : Nat) (T : TypeId) (l : List Int) (wd : Int) : Prop :=
  ∃ cap, Blk w b [.slice (some ⟨g, 0, none⟩) l.length cap, .int .u64 wd] T ∧ Own w 0 (.slice (some ⟨g, 0, none⟩) l.length cap) l ∧ b ≠ g
theorem CAt.keeps {w w' : World} {S : Nat → Prop} {b g : Nat} {T : TypeId} {l : List Int} {wd : Int} (h : CAt w b g T l wd) (hk : Keeps S w w') (h1 : ¬ S b) (h2 : ¬ S g) : CAt w' b g T l wd := by
  obtain ⟨cap, hb, ho, hne⟩ := h
  exact ⟨cap, hk.blk hb h1, ho.keeps hk (fun x hx e => by
    have : g = x := by simpa [Value.ownBlock] using hx
    subst this; exact h2 e), hne⟩
theorem CAt.drewN {w : World} {b g : Nat} {T : TypeId} {l : List Int} {wd : Int} (h : CAt w b g T l wd) (n : Nat) : CAt (w.drewN n) b g T l wd := h
theorem CAt.drew {w : World} {b g : Nat} {T : TypeId} {l : List Int} {wd : Int} (h : CAt w b g T l wd) : CAt w.drew b g T l wd := h
theorem CAt.ltg {w : World} {b g : Nat} {T : TypeId} {l : List Int} {wd : Int} (h : CAt w b g T l wd) : g < w.heap.size := by
  obtain ⟨cap, _, ho, _⟩ := h
  exact (ho.1.lt g rfl).2
theorem CAt.ltb {w : World} {b g : Nat} {T : TypeId} {l : List Int} {wd : Int} (h : CAt w b g T l wd) : b < w.heap.size := by
  obtain ⟨cap, hb, _, _⟩ := h; exact hb.lt

set_option maxRecDepth 100000 in
set_option maxHeartbeats 400000 in
theorem cnew_any (w : World) : Calls Try.prog 69 #[] w fun e w' => e = .returned (.pointer (some ⟨w.heap.size + 1, 0, none⟩)) ∧ CAt w' (w.heap.size + 1) w.heap.size 146 [0, 0, 0, 0] 4294967295 ∧ Keeps None w w' := by
  have hmk := fun w : World => run_make_blk (P := Try.prog) 32 5 (.int .u8 0) 1 Try.underlying32 Try.info5 rfl .i64 .i64 4 4 4 rfl rfl (by decide) (by decide) w
  have H0 : Own (w.alloc (.cells (List.replicate 4 (Value.int .u8 0)).toArray 5)) 0 (.slice (some ⟨w.heap.size, 0, none⟩) 4 4) [0, 0, 0, 0] := by
    refine ⟨⟨rfl, .inr ⟨w.heap.size, 4, _, rfl, Nat.zero_le _, Blk.new _ _ _, Nat.le_refl _, by decide, rfl, rfl⟩⟩, by simp⟩
  have HO := Lib.hid H0
  clear H0
  go_enter Try.func69, Try.ntmps69
  go_wp2
  go_ret
  refine ⟨rfl, ⟨4, ?_, HO.out.alloc _, by omega⟩, ((Keeps.refl _ _).alloc _).alloc _⟩
  have := Blk.new (w.alloc (.cells (List.replicate 4 (Value.int .u8 0)).toArray 5)) [.slice (some ⟨w.heap.size, 0, none⟩) 4 4, .int .u64 4294967295] 146
  simp at this
  exact this
set_option maxRecDepth 100000 in
set_option maxHeartbeats 400000 in
theorem rcnew_any (w : World) : Calls Try.prog 91 #[] w fun e w' => e = .returned (.pointer (some ⟨w.heap.size + 1, 0, none⟩)) ∧ CAt w' (w.heap.size + 1) w.heap.size 144 [0, 0, 0, 0] 4294967295 ∧ Keeps None w w' := by
  have hmk := fun w : World => run_make_blk (P := Try.prog) 32 5 (.int .u8 0) 1 Try.underlying32 Try.info5 rfl .i64 .i64 4 4 4 rfl rfl (by decide) (by decide) w
  have H0 : Own (w.alloc (.cells (List.replicate 4 (Value.int .u8 0)).toArray 5)) 0 (.slice (some ⟨w.heap.size, 0, none⟩) 4 4) [0, 0, 0, 0] := by
    refine ⟨⟨rfl, .inr ⟨w.heap.size, 4, _, rfl, Nat.zero_le _, Blk.new _ _ _, Nat.le_refl _, by decide, rfl, rfl⟩⟩, by simp⟩
  have HO := Lib.hid H0
  clear H0
  go_enter Try.func91, Try.ntmps91
  go_wp2
  go_ret
  refine ⟨rfl, ⟨4, ?_, HO.out.alloc _, by omega⟩, ((Keeps.refl _ _).alloc _).alloc _⟩
  have := Blk.new (w.alloc (.cells (List.replicate 4 (Value.int .u8 0)).toArray 5)) [.slice (some ⟨w.heap.size, 0, none⟩) 4 4, .int .u64 4294967295] 144
  simp at this
  exact this

theorem addTo_step {i : Nat} {l : List Int} {m : Int} (h : 0 < m) : addTo (i + 1) l m = addTo i (l.set i ((m + l.getD i 0) % 256)) ((m + l.getD i 0) / 256) := by
  rw [addTo]; exact if_pos h
theorem addTo_stop {j : Nat} {l : List Int} {m : Int} (h : ¬ 0 < m) : addTo j l m = l := by
  cases j with
  | zero => rfl
  | succ j => rw [addTo]; exact if_neg h

set_option maxRecDepth 100000 in
set_option maxHeartbeats 800000 in
theorem cadd_any (b g : Nat) (l : List Int) (wd n : Int) (w : World) (h : CAt w b g 146 l wd) (hn0 : 0 ≤ n) (hn1 : n < 4294967296) (hl : l.length ≤ 1099511627776) :
    Calls Try.prog 113 #[.pointer (some ⟨b, 0, none⟩), .int .u64 n] w fun e w' => e = .returned (.tuple #[]) ∧ CAt w' b g 146 (addL l n) wd ∧ Keeps (fun k => k = g) w w' := by
  obtain ⟨cap, hb, ho, hne⟩ := h
  have FIN : Hid (addTo l.length l n = addL l n) := rfl
  have AL : Hid ((addL l n).length = l.length) := addL_length l n
  obtain ⟨N, hN⟩ : ∃ N, N = l.length := ⟨_, rfl⟩
  have LL : Hid (l.length = N) := hN.symm
  rw [← hN] at hb ho AL FIN hl
  have c0 := hb.cellD 0 _ rfl
  have HB := Lib.hid hb
  have HO := Lib.hid ho
  clear hb ho hN
  generalize addL l n = R at *
  go_enter Try.func113, Try.ntmps113
  go_wp2
  go_loopw [1, 4] (fun nv iv wr => ∃ (j : Nat) (l' : List Int) (m : Int), j ≤ N ∧ iv = .int .i64 ((j : Int) - 1) ∧ nv = .int .u64 m ∧ 0 ≤ m ∧ m < 4294967296 ∧ Hid (l'.length = N) ∧ Hid (addTo j l' m = R) ∧ Blk wr b [.slice (some ⟨g, 0, none⟩) N cap, .int .u64 wd] 146 ∧ Own wr 0 (.slice (some ⟨g, 0, none⟩) N cap) l' ∧ Keeps (fun k => k = g) w wr) (fun _ iv _ => (intOf iv + 1).toNat)
  case atStart => exact ⟨N, l, n, Nat.le_refl _, rfl, rfl, hn0, hn1, LL, FIN, HB.out, HO.out, Keeps.refl _ _⟩
  case round =>
    obtain ⟨j, l', m, hj, hi, rfl, hm0, hm1, HL, HR, hb, ho, hk⟩ := hrel
    have d0 := hb.cellD 0 _ rfl
    clear HB HO FIN LL c0
    cases j with
    | zero =>
      have e0 : ((0 : Nat) : Int) - 1 = -1 := rfl
      rw [e0] at hi
      subst hi
      have e1 : l' = R := HR.out
      subst e1
      have HF : Hid (CAt wr b g 146 l' wd ∧ Keeps (fun k => k = g) w wr) := ⟨⟨cap, by rw [HL.out]; exact hb, by rw [HL.out]; exact ho, hne⟩, hk⟩
      clear e0 hb ho hk
      go_wp2
      go_end0
      exact ⟨rfl, HF.out.1, HF.out.2⟩
    | succ i =>
      have e0 : ((i + 1 : Nat) : Int) - 1 = i := by omega
      rw [e0] at hi
      subst hi
      by_cases hpos : 0 < m
      · obtain ⟨g', e, -, hglt, -, hcap1, hcap2, hg, hf⟩ := ho.at_ (show i < N by omega)
        cases e
        have hx := byte_getD ho.2 i
        have hR : addTo i (l'.set i ((m + l'.getD i 0) % 256)) ((m + l'.getD i 0) / 256) = R := by rw [← addTo_step hpos]; exact HR.out
        have ho2 := ho.store rfl i ((m + l'.getD i 0) % 256) (by omega) (by rw [HL.out]; omega)
        have hl2 : (l'.set i ((m + l'.getD i 0) % 256)).length = N := by rw [List.length_set]; exact HL.out
        have HR2 := Lib.hid hR
        have HO2 := Lib.hid ho2
        have HL2 := Lib.hid hl2
        have HB := Lib.hid hb
        have HK := Lib.hid hk
        have hiN : i < N := by omega
        have q : decide (0 < m) = true := by simpa using hpos
        clear hR ho2 hl2 hb hk ho HR hj e0
        generalize l'.getD i 0 = x at *
        generalize l'.set i ((m + x) % 256) = l2 at *
        go_wp2
        go_roundw
        case rel => exact ⟨i, l2, (m + x) / 256, by omega, rfl, rfl, by omega, by omega, HL2, HR2, HB.out.setOther _ _ hne, HO2.out, HK.out.setCell _ _ (fun _ => rfl)⟩
        case measure => simp [intOf]
      · have e1 : l' = R := by rw [← HR.out]; exact (addTo_stop hpos).symm
        subst e1
        have HF : Hid (CAt wr b g 146 l' wd ∧ Keeps (fun k => k = g) w wr) := ⟨⟨cap, by rw [HL.out]; exact hb, by rw [HL.out]; exact ho, hne⟩, hk⟩
        have q : decide (0 < m) = false := by simpa using hpos
        clear e0 hb ho hk hpos
        go_wp2
        go_end0
        exact ⟨rfl, HF.out.1, HF.out.2⟩
set_option maxRecDepth 100000 in
set_option maxHeartbeats 800000 in
theorem rcadd_any (b g : Nat) (l : List Int) (wd n : Int) (w : World) (h : CAt w b g 144 l wd) (hn0 : 0 ≤ n) (hn1 : n < 4294967296) (hl : l.length ≤ 1099511627776) :
    Calls Try.prog 110 #[.pointer (some ⟨b, 0, none⟩), .int .u64 n] w fun e w' => e = .returned (.tuple #[]) ∧ CAt w' b g 144 (addL l n) wd ∧ Keeps (fun k => k = g) w w' := by
  obtain ⟨cap, hb, ho, hne⟩ := h
  have FIN : Hid (addTo l.length l n = addL l n) := rfl
  have AL : Hid ((addL l n).length = l.length) := addL_length l n
  obtain ⟨N, hN⟩ : ∃ N, N = l.length := ⟨_, rfl⟩
  have LL : Hid (l.length = N) := hN.symm
  rw [← hN] at hb ho AL FIN hl
  have c0 := hb.cellD 0 _ rfl
  have HB := Lib.hid hb
  have HO := Lib.hid ho
  clear hb ho hN
  generalize addL l n = R at *
  go_enter Try.func110, Try.ntmps110
  go_wp2
  go_loopw [1, 4] (fun nv iv wr => ∃ (j : Nat) (l' : List Int) (m : Int), j ≤ N ∧ iv = .int .i64 ((j : Int) - 1) ∧ nv = .int .u64 m ∧ 0 ≤ m ∧ m < 4294967296 ∧ Hid (l'.length = N) ∧ Hid (addTo j l' m = R) ∧ Blk wr b [.slice (some ⟨g, 0, none⟩) N cap, .int .u64 wd] 144 ∧ Own wr 0 (.slice (some ⟨g, 0, none⟩) N cap) l' ∧ Keeps (fun k => k = g) w wr) (fun _ iv _ => (intOf iv + 1).toNat)
  case atStart => exact ⟨N, l, n, Nat.le_refl _, rfl, rfl, hn0, hn1, LL, FIN, HB.out, HO.out, Keeps.refl _ _⟩
  case round =>
    obtain ⟨j, l', m, hj, hi, rfl, hm0, hm1, HL, HR, hb, ho, hk⟩ := hrel
    have d0 := hb.cellD 0 _ rfl
    clear HB HO FIN LL c0
    cases j with
    | zero =>
      have e0 : ((0 : Nat) : Int) - 1 = -1 := rfl
      rw [e0] at hi
      subst hi
      have e1 : l' = R := HR.out
      subst e1
      have HF : Hid (CAt wr b g 144 l' wd ∧ Keeps (fun k => k = g) w wr) := ⟨⟨cap, by rw [HL.out]; exact hb, by rw [HL.out]; exact ho, hne⟩, hk⟩
      clear e0 hb ho hk
      go_wp2
      go_end0
      exact ⟨rfl, HF.out.1, HF.out.2⟩
    | succ i =>
      have e0 : ((i + 1 : Nat) : Int) - 1 = i := by omega
      rw [e0] at hi
      subst hi
      by_cases hpos : 0 < m
      · obtain ⟨g', e, -, hglt, -, hcap1, hcap2, hg, hf⟩ := ho.at_ (show i < N by omega)
        cases e
        have hx := byte_getD ho.2 i
        have hR : addTo i (l'.set i ((m + l'.getD i 0) % 256)) ((m + l'.getD i 0) / 256) = R := by rw [← addTo_step hpos]; exact HR.out
        have ho2 := ho.store rfl i ((m + l'.getD i 0) % 256) (by omega) (by rw [HL.out]; omega)
        have hl2 : (l'.set i ((m + l'.getD i 0) % 256)).length = N := by rw [List.length_set]; exact HL.out
        have HR2 := Lib.hid hR
        have HO2 := Lib.hid ho2
        have HL2 := Lib.hid hl2
        have HB := Lib.hid hb
        have HK := Lib.hid hk
        have hiN : i < N := by omega
        have q : decide (0 < m) = true := by simpa using hpos
        clear hR ho2 hl2 hb hk ho HR hj e0
        generalize l'.getD i 0 = x at *
        generalize l'.set i ((m + x) % 256) = l2 at *
        go_wp2
        go_roundw
        case rel => exact ⟨i, l2, (m + x) / 256, by omega, rfl, rfl, by omega, by omega, HL2, HR2, HB.out.setOther _ _ hne, HO2.out, HK.out.setCell _ _ (fun _ => rfl)⟩
        case measure => simp [intOf]
      · have e1 : l' = R := by rw [← HR.out]; exact (addTo_stop hpos).symm
        subst e1
        have HF : Hid (CAt wr b g 144 l' wd ∧ Keeps (fun k => k = g) w wr) := ⟨⟨cap, by rw [HL.out]; exact hb, by rw [HL.out]; exact ho, hne⟩, hk⟩
        have q : decide (0 < m) = false := by simpa using hpos
        clear e0 hb ho hk hpos
        go_wp2
        go_end0
        exact ⟨rfl, HF.out.1, HF.out.2⟩

/-- A coder after a step: its bytes lie where they lay, or in a new block. -/
def CMoved (w : World) (b g : Nat) (T : TypeId) (l : List Int) (wd : Int) (w' : World) : Prop := ∃ g', (g' = g ∨ w.heap.size ≤ g') ∧ CAt w' b g' T l wd ∧ Keeps (fun k => k = b ∨ k = g) w w'
/-- Low and width, made greater where width is too narrow. -/
def cStrL (l : List Int) (wd : Int) : List Int := if wd < 16777216 then l ++ [0] else l
set_option maxRecDepth 100000 in
set_option maxHeartbeats 800000 in
theorem cstr_any (b g : Nat) (l : List Int) (wd : Int) (w : World) (h : CAt w b g 146 l wd) (h0 : 0 ≤ wd) (h1 : wd < 4294967296) (hl : l.length < 1099511627776) :
    Calls Try.prog 114 #[.pointer (some ⟨b, 0, none⟩)] w fun e w' => e = .returned (.tuple #[]) ∧ CMoved w b g 146 (cStrL l wd) (strW wd) w' := by
  have hblt := h.ltb
  obtain ⟨cap, hb, ho, hne⟩ := h
  have c0 := hb.cellD 0 _ rfl
  have c1 := hb.cellD 1 _ rfl
  have f0 := hb.frozen 0
  have f1 := hb.frozen 1
  have HB := Lib.hid hb
  have HO := Lib.hid ho
  clear hb ho
  by_cases hw : wd < 16777216
  · have e1 : strW wd = wd * 256 := if_pos hw
    have e2 : cStrL l wd = l ++ [0] := if_pos hw
    have E2 := Lib.hid (show (l ++ [(0 : Int)]).length = l.length + 1 by simp)
    rw [e1, e2]
    clear e1 e2
    have q1 : decide (wd < 16777216) = true := by simpa using hw
    have HO1 := Lib.hid (HO.out.keeps ((Keeps.self b w).put 1 (.int .u64 (wd * 256))) (fun x hx e => by
      have : g = x := by simpa [Value.ownBlock] using hx
      omega))
    have HB1 := Lib.hid (HB.out.set 1 (.int .u64 (wd * 256)))
    go_enter Try.func114, Try.ntmps114
    go_wp2_with (at_builtin; refine wpList_append_blk (HO1.out.alloc _) (Bs.oneAt _ _ (by simp) _ (by decide)) (by omega) (by simp) rfl rfl rfl rfl rfl (by omega) ?_; intro g' cap' w2 hg' ho2 hk2; have B2 := hk2.blk (HB1.out.alloc (.cells #[.int .u8 0] 5)) hne; have g2 := B2.cellD 0 _ rfl; have g3 := B2.frozen 0; have HB2 := Lib.hid B2; have HO2 := Lib.hid ho2; have HK2 := Lib.hid hk2; clear B2 ho2 hk2)
    go_end0
    have hsz := HK2.out.size
    refine ⟨rfl, g', ?_, ⟨cap', ?_, ?_, ?_⟩, ?_⟩
    · rcases hg' with hg' | hg'
      · exact .inl hg'
      · right; simp at hg'; omega
    · rw [E2.out]; exact HB2.out.set 0 _
    · rw [E2.out]
      refine HO2.out.keeps ((Keeps.self b _).put 0 _) (fun x hx e => ?_)
      have : g' = x := by simpa [Value.ownBlock] using hx
      rcases hg' with hg' | hg'
      · omega
      · simp at hg'; omega
    · rcases hg' with hg' | hg'
      · omega
      · simp at hg'; omega
    · exact (((((Keeps.self b w).put 1 _).mono (T := fun k => k = b ∨ k = g) (fun _ _ h => .inl h)).alloc _).trans HK2.out (fun _ h => h) (fun _ _ h => .inr h)).setCell _ _ (fun _ => .inl rfl)
  · have e1 : strW wd = wd := if_neg hw
    have e2 : cStrL l wd = l := if_neg hw
    rw [e1, e2]
    clear e1 e2
    have q1 : decide (wd < 16777216) = false := by simpa using hw
    go_enter Try.func114, Try.ntmps114
    go_wp2
    go_end0
    exact ⟨rfl, g, .inl rfl, ⟨cap, HB.out, HO.out, hne⟩, Keeps.refl _ _⟩
set_option maxRecDepth 100000 in
set_option maxHeartbeats 800000 in
theorem rcstr_any (b g : Nat) (l : List Int) (wd : Int) (w : World) (h : CAt w b g 144 l wd) (h0 : 0 ≤ wd) (h1 : wd < 4294967296) (hl : l.length < 1099511627776) :
    Calls Try.prog 111 #[.pointer (some ⟨b, 0, none⟩)] w fun e w' => e = .returned (.tuple #[]) ∧ CMoved w b g 144 (cStrL l wd) (strW wd) w' := by
  have hblt := h.ltb
  obtain ⟨cap, hb, ho, hne⟩ := h
  have c0 := hb.cellD 0 _ rfl
  have c1 := hb.cellD 1 _ rfl
  have f0 := hb.frozen 0
  have f1 := hb.frozen 1
  have HB := Lib.hid hb
  have HO := Lib.hid ho
  clear hb ho
  by_cases hw : wd < 16777216
  · have e1 : strW wd = wd * 256 := if_pos hw
    have e2 : cStrL l wd = l ++ [0] := if_pos hw
    have E2 := Lib.hid (show (l ++ [(0 : Int)]).length = l.length + 1 by simp)
    rw [e1, e2]
    clear e1 e2
    have q1 : decide (wd < 16777216) = true := by simpa using hw
    have HO1 := Lib.hid (HO.out.keeps ((Keeps.self b w).put 1 (.int .u64 (wd * 256))) (fun x hx e => by
      have : g = x := by simpa [Value.ownBlock] using hx
      omega))
    have HB1 := Lib.hid (HB.out.set 1 (.int .u64 (wd * 256)))
    go_enter Try.func111, Try.ntmps111
    go_wp2_with (at_builtin; refine wpList_append_blk (HO1.out.alloc _) (Bs.oneAt _ _ (by simp) _ (by decide)) (by omega) (by simp) rfl rfl rfl rfl rfl (by omega) ?_; intro g' cap' w2 hg' ho2 hk2; have B2 := hk2.blk (HB1.out.alloc (.cells #[.int .u8 0] 5)) hne; have g2 := B2.cellD 0 _ rfl; have g3 := B2.frozen 0; have HB2 := Lib.hid B2; have HO2 := Lib.hid ho2; have HK2 := Lib.hid hk2; clear B2 ho2 hk2)
    go_end0
    have hsz := HK2.out.size
    refine ⟨rfl, g', ?_, ⟨cap', ?_, ?_, ?_⟩, ?_⟩
    · rcases hg' with hg' | hg'
      · exact .inl hg'
      · right; simp at hg'; omega
    · rw [E2.out]; exact HB2.out.set 0 _
    · rw [E2.out]
      refine HO2.out.keeps ((Keeps.self b _).put 0 _) (fun x hx e => ?_)
      have : g' = x := by simpa [Value.ownBlock] using hx
      rcases hg' with hg' | hg'
      · omega
      · simp at hg'; omega
    · rcases hg' with hg' | hg'
      · omega
      · simp at hg'; omega
    · exact (((((Keeps.self b w).put 1 _).mono (T := fun k => k = b ∨ k = g) (fun _ _ h => .inl h)).alloc _).trans HK2.out (fun _ h => h) (fun _ _ h => .inr h)).setCell _ _ (fun _ => .inl rfl)
  · have e1 : strW wd = wd := if_neg hw
    have e2 : cStrL l wd = l := if_neg hw
    rw [e1, e2]
    clear e1 e2
    have q1 : decide (wd < 16777216) = false := by simpa using hw
    go_enter Try.func111, Try.ntmps111
    go_wp2
    go_end0
    exact ⟨rfl, g, .inl rfl, ⟨cap, HB.out, HO.out, hne⟩, Keeps.refl _ _⟩

theorem CMoved.of {w w1 w2 : World} {b g : Nat} {T : TypeId} {l : List Int} {wd : Int} (h : CMoved w1 b g T l wd w2) (k : Keeps (fun k => k = b ∨ k = g) w w1) : CMoved w b g T l wd w2 := by
  obtain ⟨g', h1, h2, h3⟩ := h
  exact ⟨g', by have := k.size; omega, h2, k.trans h3 (fun _ h => h) (fun _ _ h => h)⟩
/-- What a bit comes to. -/
def cBd (wd p : Int) : Int := wd / 2048 * hold p
def cBitL (l : List Int) (wd p bit : Int) : List Int := if bit = 0 then cStrL l (cBd wd p) else cStrL (addL l (cBd wd p)) (wd - cBd wd p)
def cBitW (wd p bit : Int) : Int := if bit = 0 then strW (cBd wd p) else strW (wd - cBd wd p)
def cHalfL (l : List Int) (wd bit : Int) : List Int := if bit = 0 then cStrL l (wd / 2) else cStrL (addL l (wd / 2)) (wd / 2)
def cHalfW (wd : Int) : Int := strW (wd / 2)
theorem cBd_bd (wd p : Int) (h0 : 0 ≤ wd) (h1 : wd < 4294967296) : 0 ≤ wd / 2048 ∧ wd / 2048 ≤ 2097151 ∧ 0 ≤ wd / 2048 * hold p ∧ wd / 2048 * hold p ≤ wd ∧ wd / 2048 * hold p < 4294967296 := by
  have a1 := hold_lo p
  have a2 := hold_hi p
  have h3 : 0 ≤ wd / 2048 := by omega
  have h4 : wd / 2048 * hold p ≤ wd / 2048 * 2017 := Int.mul_le_mul_of_nonneg_left a2 h3
  have h5 : 0 ≤ wd / 2048 * hold p := Int.mul_nonneg h3 (by omega)
  omega
theorem CAt.width {w : World} {b g : Nat} {T : TypeId} {l : List Int} {wd : Int} (h : CAt w b g T l wd) (v : Int) : CAt (w.setCell ⟨b, 1, none⟩ (.int .u64 v)) b g T l v := by
  obtain ⟨cap, hb, ho, hne⟩ := h
  exact ⟨cap, hb.set 1 _, ho.keeps ((Keeps.self b w).put 1 (.int .u64 v)) (fun x hx e => by
    have : g = x := by simpa [Value.ownBlock] using hx
    omega), hne⟩
theorem CAt.cellW {w : World} {b g : Nat} {T : TypeId} {l : List Int} {wd : Int} (h : CAt w b g T l wd) : w.cell? ⟨b, 1, none⟩ = some (.int .u64 wd) := by
  obtain ⟨cap, hb, _, _⟩ := h; exact hb.cellD 1 _ rfl
theorem CAt.frozenW {w : World} {b g : Nat} {T : TypeId} {l : List Int} {wd : Int} (h : CAt w b g T l wd) : w.frozen? ⟨b, 1, none⟩ = false := by
  obtain ⟨cap, hb, _, _⟩ := h; exact hb.frozen 1

-- #1 name, #2 function, #3 type, #4 hold's function, #5 hold's law, #6 adapt's function, #7 adapt's law, #8 add's, #9 stretch's
set_option maxRecDepth 100000 in
set_option maxHeartbeats 1600000 in
theorem cbit_any (b g : Nat) (l : List Int) (wd p bit : Int) (w : World) (h : CAt w b g 146 l wd) (h0 : 0 ≤ wd) (h1 : wd < 4294967296) (hl : l.length < 1099511627776) :
    Calls Try.prog 96 #[.pointer (some ⟨b, 0, none⟩), .int .i64 p, .int .i64 bit] w fun e w' => e = .returned (.int .i64 (adapt p bit)) ∧ CMoved w b g 146 (cBitL l wd p bit) (cBitW wd p bit) w' := by
  obtain ⟨b1, b2, b3, b4, b5⟩ := cBd_bd wd p h0 h1
  have HH := Lib.hid (fun w => hold_any p w)
  have HA := Lib.hid (fun w => adapt_any p bit w)
  have a1 := hold_lo p
  have a2 := hold_hi p
  have c1 := h.cellW
  have f1 := h.frozenW
  have HC := Lib.hid h
  clear h
  unfold cBitL cBitW cBd
  generalize hold p = q at *
  generalize adapt p bit = nx at *
  by_cases hb : bit = 0
  · subst hb
    rw [if_pos rfl, if_pos rfl]
    go_enter Try.func96, Try.ntmps96
    go_wp2
    obtain ⟨mS, mh⟩ : ∃ S : World → Prop, ∀ w', S w' ↔ (w'.cell? ⟨b, 1, none⟩ = some (.int .u64 wd)) := ⟨_, fun _ => Iff.rfl⟩
    have mk0 : ∀ x : Memb mS, x.at_.cell? ⟨b, 1, none⟩ = some (.int .u64 wd) := fun x => ((mh _).1 x.is)
    have mn : Nonempty (Memb mS) := ⟨⟨(w).drew, (mh _).2 (c1)⟩⟩
    have mH := Lib.hid mh
    clear mh
    refine wp_region_mix [6] (InS mS) (by kernel_rfl) (by kernel_rfl) (InS.mk ((mH.out _).2 (c1))) ?_
    refine wpMix_seg 6 (by kernel_rfl) (by decide) ?_
    simp only [List.take_succ_cons, List.take_zero, List.drop_succ_cons, List.drop_zero]
    repeat (go_big_quiet_step (fail))
    refine wpQuiet_nil ?_
    refine wpMix_eff (by kernel_rfl) ?_
    go_wp2_with fail
    refine (HH.out _).mono ?_
    rintro e w' ⟨rfl, rfl⟩
    go_wp2
    refine MixK.on (InS.mk ((mH.out _).2 (c1))) ?_
    refine wpMix_seg 3 (by kernel_rfl) (by decide) ?_
    simp only [List.take_succ_cons, List.take_zero, List.drop_succ_cons, List.drop_zero]
    repeat (go_big_quiet_step (fail))
    refine wpQuiet_nil ?_
    refine wpMix_nil ?_
    clear mk0 mn mH
    go_wp2_with fail
    refine (cstr_any b g l (wd / 2048 * q) _ (HC.out.drew.width _) b3 b5 hl).mono ?_
    rintro e w2 ⟨rfl, hm⟩
    have HM := Lib.hid (hm.of (((Keeps.self b w).drew.put 1 _).mono (fun _ _ h => .inl h)))
    clear hm
    go_wp2_with (refine (HA.out _).mono ?_; rintro e w' ⟨rfl, rfl⟩)
    go_ret
    exact ⟨rfl, HM.out⟩
  · rw [if_neg hb, if_neg hb]
    have q1 : (bit == 0) = false := by simpa using hb
    clear hb
    go_enter Try.func96, Try.ntmps96
    go_wp2
    obtain ⟨mS, mh⟩ : ∃ S : World → Prop, ∀ w', S w' ↔ (w'.cell? ⟨b, 1, none⟩ = some (.int .u64 wd)) := ⟨_, fun _ => Iff.rfl⟩
    have mk0 : ∀ x : Memb mS, x.at_.cell? ⟨b, 1, none⟩ = some (.int .u64 wd) := fun x => ((mh _).1 x.is)
    have mn : Nonempty (Memb mS) := ⟨⟨(w).drew, (mh _).2 (c1)⟩⟩
    have mH := Lib.hid mh
    clear mh
    refine wp_region_mix [6] (InS mS) (by kernel_rfl) (by kernel_rfl) (InS.mk ((mH.out _).2 (c1))) ?_
    refine wpMix_seg 6 (by kernel_rfl) (by decide) ?_
    simp only [List.take_succ_cons, List.take_zero, List.drop_succ_cons, List.drop_zero]
    repeat (go_big_quiet_step (fail))
    refine wpQuiet_nil ?_
    refine wpMix_eff (by kernel_rfl) ?_
    go_wp2_with fail
    refine (HH.out _).mono ?_
    rintro e w' ⟨rfl, rfl⟩
    go_wp2
    refine MixK.on (InS.mk ((mH.out _).2 (c1))) ?_
    refine wpMix_seg 3 (by kernel_rfl) (by decide) ?_
    simp only [List.take_succ_cons, List.take_zero, List.drop_succ_cons, List.drop_zero]
    repeat (go_big_quiet_step (fail))
    refine wpQuiet_nil ?_
    refine wpMix_nil ?_
    clear mk0 mn mH
    go_wp2_with fail
    refine (cadd_any b g l wd (wd / 2048 * q) _ HC.out.drew b3 b5 (by omega)).mono ?_
    rintro e w2 ⟨rfl, h2, k2⟩
    have d1 := h2.cellW
    have g1 := h2.frozenW
    have AL : Hid ((addL l (wd / 2048 * q)).length < 1099511627776) := by rw [addL_length]; exact hl
    have HC2 := Lib.hid h2
    clear h2
    go_wp2_with fail
    refine (cstr_any b g (addL l (wd / 2048 * q)) (wd - wd / 2048 * q) _ (HC2.out.width _) (by omega) (by omega) AL.out).mono ?_
    rintro e w3 ⟨rfl, hm⟩
    have HM := Lib.hid (hm.of (((Keeps.refl (fun k => k = b ∨ k = g) w).drew.trans k2 (fun _ h => h) (fun _ _ h => .inr h)).setCell ⟨b, 1, none⟩ _ (fun _ => .inl rfl)))
    clear hm k2
    go_wp2_with (refine (HA.out _).mono ?_; rintro e w' ⟨rfl, rfl⟩)
    go_ret
    exact ⟨rfl, HM.out⟩
set_option maxRecDepth 100000 in
set_option maxHeartbeats 1600000 in
theorem rcbit_any (b g : Nat) (l : List Int) (wd p bit : Int) (w : World) (h : CAt w b g 144 l wd) (h0 : 0 ≤ wd) (h1 : wd < 4294967296) (hl : l.length < 1099511627776) :
    Calls Try.prog 92 #[.pointer (some ⟨b, 0, none⟩), .int .i64 p, .int .i64 bit] w fun e w' => e = .returned (.int .i64 (adapt p bit)) ∧ CMoved w b g 144 (cBitL l wd p bit) (cBitW wd p bit) w' := by
  obtain ⟨b1, b2, b3, b4, b5⟩ := cBd_bd wd p h0 h1
  have HH := Lib.hid (fun w => rhold_any p w)
  have HA := Lib.hid (fun w => radapt_any p bit w)
  have a1 := hold_lo p
  have a2 := hold_hi p
  have c1 := h.cellW
  have f1 := h.frozenW
  have HC := Lib.hid h
  clear h
  unfold cBitL cBitW cBd
  generalize hold p = q at *
  generalize adapt p bit = nx at *
  by_cases hb : bit = 0
  · subst hb
    rw [if_pos rfl, if_pos rfl]
    go_enter Try.func92, Try.ntmps92
    go_wp2
    obtain ⟨mS, mh⟩ : ∃ S : World → Prop, ∀ w', S w' ↔ (w'.cell? ⟨b, 1, none⟩ = some (.int .u64 wd)) := ⟨_, fun _ => Iff.rfl⟩
    have mk0 : ∀ x : Memb mS, x.at_.cell? ⟨b, 1, none⟩ = some (.int .u64 wd) := fun x => ((mh _).1 x.is)
    have mn : Nonempty (Memb mS) := ⟨⟨(w).drew, (mh _).2 (c1)⟩⟩
    have mH := Lib.hid mh
    clear mh
    refine wp_region_mix [6] (InS mS) (by kernel_rfl) (by kernel_rfl) (InS.mk ((mH.out _).2 (c1))) ?_
    refine wpMix_seg 6 (by kernel_rfl) (by decide) ?_
    simp only [List.take_succ_cons, List.take_zero, List.drop_succ_cons, List.drop_zero]
    repeat (go_big_quiet_step (fail))
    refine wpQuiet_nil ?_
    refine wpMix_eff (by kernel_rfl) ?_
    go_wp2_with fail
    refine (HH.out _).mono ?_
    rintro e w' ⟨rfl, rfl⟩
    go_wp2
    refine MixK.on (InS.mk ((mH.out _).2 (c1))) ?_
    refine wpMix_seg 3 (by kernel_rfl) (by decide) ?_
    simp only [List.take_succ_cons, List.take_zero, List.drop_succ_cons, List.drop_zero]
    repeat (go_big_quiet_step (fail))
    refine wpQuiet_nil ?_
    refine wpMix_nil ?_
    clear mk0 mn mH
    go_wp2_with fail
    refine (rcstr_any b g l (wd / 2048 * q) _ (HC.out.drew.width _) b3 b5 hl).mono ?_
    rintro e w2 ⟨rfl, hm⟩
    have HM := Lib.hid (hm.of (((Keeps.self b w).drew.put 1 _).mono (fun _ _ h => .inl h)))
    clear hm
    go_wp2_with (refine (HA.out _).mono ?_; rintro e w' ⟨rfl, rfl⟩)
    go_ret
    exact ⟨rfl, HM.out⟩
  · rw [if_neg hb, if_neg hb]
    have q1 : (bit == 0) = false := by simpa using hb
    clear hb
    go_enter Try.func92, Try.ntmps92
    go_wp2
    obtain ⟨mS, mh⟩ : ∃ S : World → Prop, ∀ w', S w' ↔ (w'.cell? ⟨b, 1, none⟩ = some (.int .u64 wd)) := ⟨_, fun _ => Iff.rfl⟩
    have mk0 : ∀ x : Memb mS, x.at_.cell? ⟨b, 1, none⟩ = some (.int .u64 wd) := fun x => ((mh _).1 x.is)
    have mn : Nonempty (Memb mS) := ⟨⟨(w).drew, (mh _).2 (c1)⟩⟩
    have mH := Lib.hid mh
    clear mh
    refine wp_region_mix [6] (InS mS) (by kernel_rfl) (by kernel_rfl) (InS.mk ((mH.out _).2 (c1))) ?_
    refine wpMix_seg 6 (by kernel_rfl) (by decide) ?_
    simp only [List.take_succ_cons, List.take_zero, List.drop_succ_cons, List.drop_zero]
    repeat (go_big_quiet_step (fail))
    refine wpQuiet_nil ?_
    refine wpMix_eff (by kernel_rfl) ?_
    go_wp2_with fail
    refine (HH.out _).mono ?_
    rintro e w' ⟨rfl, rfl⟩
    go_wp2
    refine MixK.on (InS.mk ((mH.out _).2 (c1))) ?_
    refine wpMix_seg 3 (by kernel_rfl) (by decide) ?_
    simp only [List.take_succ_cons, List.take_zero, List.drop_succ_cons, List.drop_zero]
    repeat (go_big_quiet_step (fail))
    refine wpQuiet_nil ?_
    refine wpMix_nil ?_
    clear mk0 mn mH
    go_wp2_with fail
    refine (rcadd_any b g l wd (wd / 2048 * q) _ HC.out.drew b3 b5 (by omega)).mono ?_
    rintro e w2 ⟨rfl, h2, k2⟩
    have d1 := h2.cellW
    have g1 := h2.frozenW
    have AL : Hid ((addL l (wd / 2048 * q)).length < 1099511627776) := by rw [addL_length]; exact hl
    have HC2 := Lib.hid h2
    clear h2
    go_wp2_with fail
    refine (rcstr_any b g (addL l (wd / 2048 * q)) (wd - wd / 2048 * q) _ (HC2.out.width _) (by omega) (by omega) AL.out).mono ?_
    rintro e w3 ⟨rfl, hm⟩
    have HM := Lib.hid (hm.of (((Keeps.refl (fun k => k = b ∨ k = g) w).drew.trans k2 (fun _ h => h) (fun _ _ h => .inr h)).setCell ⟨b, 1, none⟩ _ (fun _ => .inl rfl)))
    clear hm k2
    go_wp2_with (refine (HA.out _).mono ?_; rintro e w' ⟨rfl, rfl⟩)
    go_ret
    exact ⟨rfl, HM.out⟩

set_option maxRecDepth 100000 in
set_option maxHeartbeats 800000 in
theorem chalf_any (b g : Nat) (l : List Int) (wd bit : Int) (w : World) (h : CAt w b g 146 l wd) (h0 : 0 ≤ wd) (h1 : wd < 4294967296) (hl : l.length < 1099511627776) :
    Calls Try.prog 98 #[.pointer (some ⟨b, 0, none⟩), .int .i64 bit] w fun e w' => e = .returned (.tuple #[]) ∧ CMoved w b g 146 (cHalfL l wd bit) (cHalfW wd) w' := by
  have c1 := h.cellW
  have f1 := h.frozenW
  have HC := Lib.hid h
  clear h
  unfold cHalfL cHalfW
  by_cases hb : bit = 0
  · subst hb
    rw [if_pos rfl]
    go_enter Try.func98, Try.ntmps98
    go_wp2_with fail
    refine (cstr_any b g l (wd / 2) _ (HC.out.width _) (by omega) (by omega) hl).mono ?_
    rintro e w2 ⟨rfl, hm⟩
    have HM := Lib.hid (hm.of (((Keeps.self b w).put 1 _).mono (fun _ _ h => .inl h)))
    clear hm
    go_wp2
    go_end0
    exact ⟨rfl, HM.out⟩
  · rw [if_neg hb]
    have q1 : (bit == 0) = false := by simpa using hb
    have q2 : (bit != 0) = true := by simpa using hb
    clear hb
    go_enter Try.func98, Try.ntmps98
    go_wp2_with fail
    refine (cadd_any b g l (wd / 2) (wd / 2) _ (HC.out.width _) (by omega) (by omega) (by omega)).mono ?_
    rintro e w2 ⟨rfl, h2, k2⟩
    have AL : Hid ((addL l (wd / 2)).length < 1099511627776) := by rw [addL_length]; exact hl
    have HC2 := Lib.hid h2
    clear h2
    go_wp2_with fail
    refine (cstr_any b g (addL l (wd / 2)) (wd / 2) _ HC2.out (by omega) (by omega) AL.out).mono ?_
    rintro e w3 ⟨rfl, hm⟩
    have HM := Lib.hid (hm.of (((Keeps.self b w).put 1 _).trans (T := fun k => k = b ∨ k = g) k2 (fun _ h => .inl h) (fun _ _ h => .inr h)))
    clear hm k2
    go_wp2
    go_end0
    exact ⟨rfl, HM.out⟩
set_option maxRecDepth 100000 in
set_option maxHeartbeats 800000 in
theorem rchalf_any (b g : Nat) (l : List Int) (wd bit : Int) (w : World) (h : CAt w b g 144 l wd) (h0 : 0 ≤ wd) (h1 : wd < 4294967296) (hl : l.length < 1099511627776) :
    Calls Try.prog 94 #[.pointer (some ⟨b, 0, none⟩), .int .i64 bit] w fun e w' => e = .returned (.tuple #[]) ∧ CMoved w b g 144 (cHalfL l wd bit) (cHalfW wd) w' := by
  have c1 := h.cellW
  have f1 := h.frozenW
  have HC := Lib.hid h
  clear h
  unfold cHalfL cHalfW
  by_cases hb : bit = 0
  · subst hb
    rw [if_pos rfl]
    go_enter Try.func94, Try.ntmps94
    go_wp2_with fail
    refine (rcstr_any b g l (wd / 2) _ (HC.out.width _) (by omega) (by omega) hl).mono ?_
    rintro e w2 ⟨rfl, hm⟩
    have HM := Lib.hid (hm.of (((Keeps.self b w).put 1 _).mono (fun _ _ h => .inl h)))
    clear hm
    go_wp2
    go_end0
    exact ⟨rfl, HM.out⟩
  · rw [if_neg hb]
    have q1 : (bit == 0) = false := by simpa using hb
    have q2 : (bit != 0) = true := by simpa using hb
    clear hb
    go_enter Try.func94, Try.ntmps94
    go_wp2_with fail
    refine (rcadd_any b g l (wd / 2) (wd / 2) _ (HC.out.width _) (by omega) (by omega) (by omega)).mono ?_
    rintro e w2 ⟨rfl, h2, k2⟩
    have AL : Hid ((addL l (wd / 2)).length < 1099511627776) := by rw [addL_length]; exact hl
    have HC2 := Lib.hid h2
    clear h2
    go_wp2_with fail
    refine (rcstr_any b g (addL l (wd / 2)) (wd / 2) _ HC2.out (by omega) (by omega) AL.out).mono ?_
    rintro e w3 ⟨rfl, hm⟩
    have HM := Lib.hid (hm.of (((Keeps.self b w).put 1 _).trans (T := fun k => k = b ∨ k = g) k2 (fun _ h => .inl h) (fun _ _ h => .inr h)))
    clear hm k2
    go_wp2
    go_end0
    exact ⟨rfl, HM.out⟩

set_option maxRecDepth 100000 in
set_option maxHeartbeats 400000 in
theorem cdone_any (b g : Nat) (l : List Int) (wd : Int) (w : World) (h : CAt w b g 146 l wd) (hl : l.length ≤ 1099511627776) :
    Calls Try.prog 72 #[.pointer (some ⟨b, 0, none⟩)] w (Cloned w l) := by
  obtain ⟨cap, hb, ho, hne⟩ := h
  have c0 := hb.cellD 0 _ rfl
  obtain ⟨A, cap', e, hbs, -⟩ := ho.shape
  cases e
  have HBS := Lib.hid hbs
  clear hb ho hbs
  go_enter Try.func72, Try.ntmps72
  go_wp2_with fail
  refine (clone_any _ _ _ l _ HBS.out hl).mono ?_
  rintro e w2 ⟨v, rfl, ho, hk⟩
  have HO := Lib.hid ho
  have HK := Lib.hid hk
  clear ho hk
  go_wp2
  go_ret
  exact ⟨v, rfl, HO.out, HK.out⟩
end Go.Proofs.Ytggjdkkobhefeaa
