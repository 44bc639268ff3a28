/- What a cursor may leave behind where power goes: in plain words, and the law's `write` where power may go. -/
import Derived.Test.YtngofnlhbhfigaaKcWr
import Derived.Test.YtngofnlhbhfigaaNorHalf
namespace Go.Proofs.Ytngofnlhbhfigaa
open Go.RowKit Go.ChangeShapes Go.WideShapes

/-- The byte that is to stand there in the end. -/
def endD (N : Nat) (D : Nat → Int) (i : Nat) : Int := if i < N then D i else 255
theorem endD_byte {N : Nat} {D : Nat → Int} (hD : ∀ i, 0 ≤ D i ∧ D i ≤ 255) (i : Nat) : 0 ≤ endD N D i ∧ endD N D i ≤ 255 := by
  unfold endD
  split
  · exact hD i
  · decide
theorem stepped_pk (s : FS) : ∀ z ∈ s.stepped.pick, z ∈ s.pick := by
  unfold FS.stepped
  split
  · exact fun z h => h
  · split
    · intro z h; cases h
    · exact fun z h => h
theorem lor_land (x p : Nat) : x ||| (x &&& p) = x := by
  apply Nat.eq_of_testBit_eq; intro i; simp only [Nat.testBit_and, Nat.testBit_or]; cases x.testBit i <;> simp
theorem or_and_self {x p : Int} (hx : 0 ≤ x ∧ x ≤ 255) (hp : 0 ≤ p ∧ p ≤ 255) : bits .or .u8 x (bits .and .u8 x p) = x := by
  have d := bits_and_bd _ _ hx hp
  rw [u8_or _ _ hx.1 (by omega) d.1 (by omega), u8_and _ _ hx.1 (by omega) hp.1 (by omega), Int.toNat_natCast, lor_land]
  omega
theorem canB_or {x y : Int} (hx : 0 ≤ x ∧ x ≤ 255) (hy : 0 ≤ y ∧ y ≤ 255) : canB (bits .or .u8 x y) x := by
  have d := bits_or_bd _ _ hx hy
  refine (bits_andNot_zero _ _ hx d).2 ?_
  rw [u8_or _ _ hx.1 (by omega) hy.1 (by omega), Int.toNat_natCast, land_lor]

/-- What stays true of a flash whatever becomes of the bytes [u, N) that are written: ahead of u the bytes stand, and in the sectors ahead of R nothing stands in their way. -/
structure Saf (c N u R : Nat) (D : Nat → Int) (s : FS) : Prop where
  bl : s.b.length = 1024 * c
  el : s.er.length = c
  by_ : ∀ z ∈ s.b, 0 ≤ z ∧ z ≤ 255
  pk : ∀ z ∈ s.pick, 0 ≤ z ∧ z ≤ 255
  low : ∀ i, i < u → s.b.getD i 0 = D i
  mid : ∀ i, u ≤ i → i < 1024 * R → canB (s.b.getD i 0) (endD N D i)
structure SafK (c N u R : Nat) (D : Nat → Int) (s : FS) (k : KS) : Prop where
  s : Saf c N u R D s
  len : k.word.length = 8
  wb : ∀ z ∈ k.word, 0 ≤ z ∧ z ≤ 255
  word : ∀ i, i < k.n → k.word.getD i 0 = D (k.at_ - k.n + i)
  na : k.n ≤ k.at_
  n8 : k.n ≤ 8
  rd : R ≤ k.ready
  aN : k.at_ ≤ N
section
variable {c N u R : Nat} {D : Nat → Int}
theorem Saf.put {s s' : FS} (h : Saf c N u R D s) {a : Nat} {X : List Int} (hb : s'.b = splice s.b a X) (hl : a + X.length ≤ 1024 * c) (hX : ∀ z ∈ X, 0 ≤ z ∧ z ≤ 255) (hp : ∀ z ∈ s'.pick, z ∈ s.pick) (he : s'.er.length = s.er.length)
    (h1 : ∀ i, i < X.length → a + i < u → X.getD i 0 = D (a + i)) (h2 : ∀ i, i < X.length → u ≤ a + i → a + i < 1024 * R → canB (X.getD i 0) (endD N D (a + i))) : Saf c N u R D s' := by
  have hl' : a + X.length ≤ s.b.length := by rw [h.bl]; exact hl
  refine ⟨by rw [hb, splice_len _ _ _ hl']; exact h.bl, he.trans h.el, by rw [hb]; exact splice_byte h.by_ hX, fun z hz => h.pk z (hp z hz), fun i hi => ?_, fun i hi hi2 => ?_⟩
  · rw [hb, splice_getD _ _ _ hl']
    split
    · rename_i q
      have := h1 (i - a) (by omega) (by omega)
      rwa [show a + (i - a) = i by omega] at this
    · exact h.low i hi
  · rw [hb, splice_getD _ _ _ hl']
    split
    · rename_i q
      have := h2 (i - a) (by omega) (by omega) (by omega)
      rwa [show a + (i - a) = i by omega] at this
    · exact h.mid i hi hi2
theorem saf_erase (huR : u ≤ 1024 * R) {s : FS} (h : Saf c N u R D s) {r : Nat} (hr : R ≤ r) : Saf c N u R D (s.gerase 0 c r).1 := by
  unfold FS.gerase
  split
  · exact h
  split
  · exact h
  rename_i h1 h2
  have e : (((0 : Nat) : Int) + (r : Int)) = r := by omega
  rw [e]
  unfold FS.eraseF
  split
  · exact h
  split
  · exact h
  have hrc : r < c := by omega
  have hel : (s.erased r).stepped.er.length = s.er.length := by rw [FS.stepped_er]; exact List.length_set
  have hpk : ∀ z ∈ (s.erased r).stepped.pick, z ∈ s.pick := stepped_pk (s.erased r)
  rw [Int.toNat_natCast]
  split
  · have hx : (halfN ((s.b.drop (1024 * r)).take 1024) s.pick).length = 1024 := by rw [halfN_length, List.length_take, List.length_drop, h.bl]; omega
    exact h.put rfl (by rw [hx]; omega) (halfN_byte (fun z hz => h.by_ z (List.mem_of_mem_drop (List.mem_of_mem_take hz))) h.pk) hpk hel (fun i hi hu => by omega) (fun i hi hu hR => by omega)
  · exact h.put (X := List.replicate 1024 255) rfl (by rw [List.length_replicate]; omega) (fun z hz => by rw [List.eq_of_mem_replicate hz]; decide) hpk hel (fun i hi hu => by omega) (fun i hi hu hR => by omega)
theorem saf_prep (huR : u ≤ 1024 * R) (sector : Nat) : ∀ (j : Nat) (s : FS) (r : Nat), Saf c N u R D s → R ≤ r → Saf c N u R D (prepF 0 c sector j s r).1 ∧ R ≤ (prepF 0 c sector j s r).2.1
  | 0, s, r, h, hr => ⟨h, hr⟩
  | j + 1, s, r, h, hr => by
    unfold prepF
    split
    · split
      · exact ⟨h, hr⟩
      · split
        · exact saf_prep huR sector j s (r + 1) h (by omega)
        · split
          · exact ⟨saf_erase huR h hr, hr⟩
          · exact saf_prep huR sector j _ (r + 1) (saf_erase huR h hr) (by omega)
    · exact ⟨h, hr⟩
variable (hD : ∀ i, 0 ≤ D i ∧ D i ≤ 255) (huR : u ≤ 1024 * R) (huN : u ≤ N)
include hD huN in
theorem saf_prog {s : FS} (h : Saf c N u R D s) {a : Nat} {full : List Int} (hf : full.length = 8) (hb : ∀ z ∈ full, 0 ≤ z ∧ z ≤ 255) (hw : ∀ i, i < 8 → full.getD i 0 = endD N D (a + i)) : Saf c N u R D (s.gprog 0 c a full).1 := by
  unfold FS.gprog
  split
  · exact h
  split
  · rename_i _ hw1
    have hin : a + 8 ≤ 1024 * c := by
      unfold withinB at hw1
      have := of_decide_eq_true hw1
      rw [hf] at this
      omega
    have e : (1024 * ((0 : Nat) : Int) + (a : Int)) = a := by omega
    rw [e]
    unfold FS.progF
    split
    · exact h
    split
    · exact h
    split
    · exact h
    split
    · exact h
    rename_i hc
    have hcan : canN ((s.b.drop a).take 8) full = true := by
      rw [Int.toNat_natCast, hf] at hc
      cases hq : canN ((s.b.drop a).take 8) full with
      | true => rfl
      | false => exact absurd hq hc
    have ht : full.take 8 = full := List.take_of_length_le (by omega)
    rw [Int.toNat_natCast, hf]
    show Saf c N u R D (progW 1 s a full).1
    unfold progW
    rw [ht]
    have hsb : ∀ z ∈ (s.b.drop a).take 8, 0 ≤ z ∧ z ≤ 255 := fun z hz => h.by_ z (List.mem_of_mem_drop (List.mem_of_mem_take hz))
    split
    · have hx : (tornN ((s.b.drop a).take 8) full s.pick).length = 8 := by rw [tornN, if_pos hcan, tornTo_length]; exact hf
      have hg : ∀ i, i < 8 → (tornN ((s.b.drop a).take 8) full s.pick).getD i 0 = bits .or .u8 (endD N D (a + i)) (bits .and .u8 (s.b.getD (a + i) 0) (s.pick.getD i 0)) := fun i hi => by
        rw [tornN, if_pos hcan, tornTo_getD, if_pos (by omega), if_pos (by omega), tornAt, hw i hi, cut_getD _ _ _ _ hi]
      refine h.put (a := a) rfl (by rw [hx]; exact hin) (tornN_byte hsb hb h.pk) (stepped_pk s) (by show s.stepped.er.length = _; rw [s.stepped_er]) (fun i hi hu => ?_) (fun i hi hu hR => ?_)
      · rw [hg i (by omega), h.low _ hu]
        have e : endD N D (a + i) = D (a + i) := if_pos (by omega)
        rw [e]
        exact or_and_self (hD _) (byte_getD h.pk i)
      · rw [hg i (by omega)]
        exact canB_or (endD_byte hD _) (bits_and_bd _ _ (byte_getD h.by_ _) (byte_getD h.pk i))
    · unfold progW
      refine h.put (a := a) (X := full) rfl (by rw [hf]; exact hin) hb (stepped_pk s) (by show s.stepped.er.length = _; rw [s.stepped_er]) (fun i hi hu => ?_) (fun i hi hu hR => ?_)
      · rw [hw i (by omega)]; exact if_pos (by omega)
      · rw [hw i (by omega)]; exact canB_self (endD_byte hD _)
  · exact h
include hD huR huN in
theorem saf_progK {s : FS} {k : KS} (h : SafK c N u R D s k) (hn : k.n = 8 ∨ k.at_ = N) : SafK c N u R D (progK 0 c s k).1 (progK 0 c s k).2.1 := by
  have hp := saf_prep huR ((k.at_ - k.n) / 1024) (c - k.ready) s k.ready h.s h.rd
  have h1 := h.na
  have h2 := h.aN
  have h3 := h.n8
  unfold progK prepK
  dsimp only
  split
  · exact ⟨hp.1, h.len, h.wb, h.word, h.na, h.n8, hp.2, h.aN⟩
  · refine ⟨saf_prog hD huN hp.1 (KS.full_len h.len h.n8) ?_ fun i hi => ?_, h.len, h.wb, h.word, h.na, h.n8, hp.2, h.aN⟩
    · unfold KS.full
      exact splice_byte (blankN_byte 8) (fun z hz => h.wb z (List.mem_of_mem_take hz))
    · rw [full_getD h.len h.n8 i hi]
      unfold endD
      by_cases q : i < k.n
      · rw [if_pos q, h.word i q, if_pos (by omega)]
      · rw [if_neg q, if_neg (by omega)]
include hD huR huN in
theorem saf_put {s : FS} {k : KS} (h : SafK c N u R D s k) (h7 : k.n < 8) (ha : k.at_ < N) {z : Int} (hz : z = D k.at_) : SafK c N u R D (putK 0 c s k z).1 (putK 0 c s k z).2.1 := by
  have h1 := h.na
  have hg : SafK c N u R D s (k.got z) := by
    refine ⟨h.s, by show (k.word.set k.n z).length = 8; rw [List.length_set]; exact h.len, fun y hy => ?_, fun i hi => ?_, by show k.n + 1 ≤ k.at_ + 1; omega, by show k.n + 1 ≤ 8; omega, h.rd, by show k.at_ + 1 ≤ N; omega⟩
    · rcases List.mem_or_eq_of_mem_set hy with e | e
      · exact h.wb y e
      · rw [e, hz]; exact hD _
    · have hi' : i < k.n + 1 := hi
      show (k.word.set k.n z).getD i 0 = D (k.at_ + 1 - (k.n + 1) + i)
      rw [show k.at_ + 1 - (k.n + 1) = k.at_ - k.n by omega]
      by_cases q : i = k.n
      · subst q
        rw [getD_set_self _ _ _ (by rw [h.len]; omega), hz]
        congr 1; omega
      · have : (k.word.set k.n z).getD i 0 = k.word.getD i 0 := by simp [List.getD, List.getElem?_set, show ¬ k.n = i from fun x => q x.symm]
        rw [this]; exact h.word i (by omega)
  unfold putK
  split
  · exact hg
  · have hp := saf_progK hD huR huN hg (.inl (by show k.n + 1 = 8; omega))
    split
    · exact ⟨hp.s, hp.len, hp.wb, fun i hi => absurd hi (Nat.not_lt_zero i), Nat.zero_le _, Nat.zero_le _, hp.rd, hp.aN⟩
    · exact hp
include hD huR huN in
theorem saf_row : ∀ (zs : List Int) (s : FS) (k : KS), SafK c N u R D s k → k.err = 0 → k.n < 8 → k.at_ + zs.length ≤ N → (∀ i, i < zs.length → zs.getD i 0 = D (k.at_ + i)) →
    SafK c N u R D (rowK 0 c zs s k).1 (rowK 0 c zs s k).2.1 ∧ ((rowK 0 c zs s k).2.2 = 0 → (rowK 0 c zs s k).2.1.at_ = k.at_ + zs.length)
  | [], s, k, h, _, _, _, _ => ⟨h, fun _ => rfl⟩
  | z :: zs, s, k, h, h0, h7, hN, hz => by
    have hN' : k.at_ + (zs.length + 1) ≤ N := hN
    have h1 := saf_put hD huR huN h h7 (by omega) (show z = D k.at_ from hz 0 (by simp))
    have st := putK_st 0 c s k z h0 h7
    rw [rowK_cons]
    split
    · rename_i he
      exact ⟨h1, fun e => absurd e he⟩
    · rename_i he
      have he' : (putK 0 c s k z).2.2 = 0 := Classical.byContradiction he
      have h2 := saf_row zs _ _ h1 (st.2.1.trans he') (st.2.2 he') (by rw [st.1]; omega) (fun i hi => by
        have := hz (i + 1) (by simp; omega)
        rw [st.1, Nat.add_assoc, Nat.add_comm 1 i]; exact this)
      exact ⟨h2.1, fun e => by rw [h2.2 e, st.1]; show _ = k.at_ + (zs.length + 1); omega⟩
include hD huR huN in
theorem saf_write {s : FS} {k : KS} {zs : List Int} (h : SafK c N u R D s k) (h7 : k.err = 0 → k.n < 8) (hN : k.at_ + zs.length ≤ N) (hz : ∀ i, i < zs.length → zs.getD i 0 = D (k.at_ + i)) :
    SafK c N u R D (writeK 0 c s k zs).1 (writeK 0 c s k zs).2.1 ∧ ((writeK 0 c s k zs).2.2 = 0 → (writeK 0 c s k zs).2.1.at_ = k.at_ + zs.length) := by
  unfold writeK
  split
  · rename_i he; exact ⟨h, fun e => absurd e he⟩
  · rename_i he
    have he' : k.err = 0 := Classical.byContradiction he
    split
    · exact ⟨h, fun e => absurd (show (2 : Int) = 0 from e) (by decide)⟩
    · exact saf_row hD huR huN zs s k h he' (h7 he') hN hz
include hD huR huN in
theorem saf_flush {s : FS} {k : KS} (h : SafK c N u R D s k) (ha : k.at_ = N) : SafK c N u R D (flushK 0 c s k).1 (flushK 0 c s k).2.1 := by
  unfold flushK
  split
  · exact h
  · exact saf_progK hD huR huN h (.inr ha)
end
/-- A bool is told, and the cursor's flash is as `I` says. -/
def Trod (W w : World) (B q : Nat) (L : FL) (cb c : Nat) (I : FS → Prop) (X : Nat) (e : Ending) (w' : World) : Prop :=
  ∃ v : Bool, e = .returned (.bool v) ∧ ∃ L' s' k', LK W w' B q L' s' cb 0 c k' ∧ KLink w w' L L' cb ∧ I s' ∧ Room s' X

section
variable {c N u R : Nat} {D : Nat → Int}
set_option maxRecDepth 100000 in
set_option maxHeartbeats 3200000 in
theorem write4_saf (hD : ∀ i, 0 ≤ D i ∧ D i ≤ 255) (huR : u ≤ 1024 * R) (huN : u ≤ N) {W w : World} {B q cb : Nat} {L : FL} {s : FS} {k : KS} {A PA FA : Option Addr} {m cap pm pc fm fc : Nat} {zs : List Int}
    (h : LK W w B q L s cb 0 c k) (hI : SafK c N u R D s k) (h7 : k.err = 0 → k.n < 8) (hb : KB w L cb A m cap zs) (hz : ∀ i, i < m → zs.getD i 0 = D (k.at_ + i)) (hN : k.at_ + m = N) (hc9 : c ≤ 256)
    (hpm : pm = 0) (hfm : fm = 0) (X : Nat) (hr : Room s (m * 264 + 264 + X)) :
    Calls Try.prog 58 #[.pointer (some ⟨cb, 0, none⟩), .slice A m cap, .slice PA pm pc, .slice FA fm fc] w (Trod W w B q L cb c (Saf c N u R D) X) := by
  have N2 := Lib.hid num4_any
  have HD := Lib.hid hD
  have hle := hb.bs.le
  have hmx := hb.bs.max
  have HH := Lib.hid h
  have HII := Lib.hid hI
  have H77 := Lib.hid h7
  have HBB := Lib.hid hb
  have HZZ := Lib.hid hz
  have HRR := Lib.hid hr
  have HNN := Lib.hid hN
  have HPM := Lib.hid hpm
  have HFM := Lib.hid hfm
  clear hD h hI h7 hb hz hr hN hpm hfm
  go_enter Try.func58, Try.ntmps58
  go_wp2
  go_loopw [1, 9] (fun bv iv wr => ∃ (j : Nat) (A1 : Option Addr) (m1 c1 : Nat) (zs1 : List Int) (s1 : FS) (k1 : KS) (L1 : FL), bv = .slice A1 m1 c1 ∧ iv = .int .i64 j ∧ LK W wr B q L1 s1 cb 0 c k1 ∧ KB wr L1 cb A1 m1 c1 zs1 ∧ SafK c N u R D s1 k1 ∧ k1.at_ + m1 = N ∧ (∀ i, i < m1 → zs1.getD i 0 = D (k1.at_ + i)) ∧ KLink w wr L L1 cb ∧ Room s1 (m1 * 264 + 264 + X) ∧ ((j = 0 ∧ (k1.err = 0 → k1.n < 8)) ∨ (j = 1 ∧ m1 = 0))) (fun _ iv _ => 2 - (intOf iv).toNat)
  case atStart => exact ⟨0, A, m, cap, zs, s, k, L, rfl, rfl, HH.out, HBB.out, HII.out, HNN.out, HZZ.out, KLink.self w L cb, HRR.out, .inl ⟨rfl, H77.out⟩⟩
  case round =>
    obtain ⟨j, A1, m1, c1, zs1, s1, k1, L1, rfl, rfl, h1, hB1, hI1, hat, hz1, hl1, hr1, hj⟩ := hrel
    have H1 := Lib.hid h1
    have HB1 := Lib.hid hB1
    have HI := Lib.hid hI1
    have HAT := Lib.hid hat
    have HZ := Lib.hid hz1
    have HL := Lib.hid hl1
    have HR := Lib.hid hr1
    have HJ := Lib.hid hj
    have l1 := hB1.bs.le
    have m9 := hB1.bs.max
    clear h1 hB1 hI1 hat hz1 hl1 hr1 hj HH HBB HII HNN HZZ HRR H77
    by_cases g : 0 < m1
    · have d0 : decide (0 < (m1 : Int)) = true := decide_eq_true (by omega)
      have hj0 : j = 0 ∧ (k1.err = 0 → k1.n < 8) := HJ.out.resolve_right (fun e => by omega)
      obtain ⟨hj0, h17⟩ := hj0
      have H17 := Lib.hid h17
      have HJ0 := Lib.hid hj0
      clear h17 HJ hj0
      have hnm : m1 ≤ m1 := Nat.le_refl _
      have hjp : ¬ j < pm := by have := HPM.out; omega
      have hj9 : j ≤ 1 := by have := HJ0.out; omega
      have hjf : ¬ j < fm := by have := HFM.out; omega
      have d1 : decide ((j : Int) < pm) = false := decide_eq_false (by omega)
      have d3 : decide ((j : Int) < fm) = false := decide_eq_false (by omega)
      have ln : (zs1.take m1).length = m1 := by rw [List.length_take, HB1.out.bs.len]; omega
      have sw := saf_write HD.out huR huN HI.out H17.out (zs := zs1.take m1) (by rw [ln]; have := HAT.out; omega) (fun i hi => by rw [ln] at hi; rw [take_getD2 _ _ _ hi]; exact HZ.out i hi)
      have rw1 : Room (writeK 0 c s1 k1 (zs1.take m1)).1 (264 + X) := Room.write hc9 H17.out HI.out.len (HR.out.less (by rw [ln]; omega))
      have WR := Lib.hid (lkwrite H1.out H17.out (HB1.out.take hnm) (HR.out.less (show m1 * 264 ≤ _ by omega)))
      rw [ln] at sw
      generalize writeK 0 c s1 k1 (zs1.take m1) = p at *
      obtain ⟨s2, k2, e2⟩ := p
      simp only [] at sw rw1
      have S2 := Lib.hid sw.1
      have A2' := Lib.hid sw.2
      have R2 := Lib.hid rw1
      clear sw rw1 ln
      go_wp2_with fail
      refine WR.out.mono ?_
      rintro e w3 ⟨rfl, L3, h3, l3⟩
      have H3 := Lib.hid h3
      have L3K := Lib.hid (HL.out.trans l3)
      have B3 := Lib.hid (HB1.out.link l3)
      simp only [] at H3
      clear h3 l3 WR
      go_wp2_with fail
      refine (N2.out _ _).mono ?_
      rintro e w' ⟨rfl, rfl⟩
      by_cases he : e2 = 0
      · subst he
        have A2 : Hid (k2.at_ = k1.at_ + m1) := A2'.out rfl
        clear A2'
        obtain ⟨b9, o9, e9, -, -⟩ := B3.out.bs.at_ g
        subst e9
        by_cases hcn : c1 = m1
        · subst hcn
          -- (some ⟨b9, o9, none⟩) A of the rest, 0 m, 0 cap, ⟨Bs.empty _ _ 0 (by decide), fun b' off' h0 e => absurd h0 (by decide)⟩ the proof of KB
          go_wp2
          go_roundw
          case rel => exact ⟨j + 1, (some ⟨b9, o9, none⟩), 0, 0, [], s2, k2, L3, rfl, by go_num, H3.out, ⟨Bs.empty _ _ 0 (by decide), fun b' off' h0 e => absurd h0 (by decide)⟩, S2.out, by rw [A2.out]; have := HAT.out; omega, fun i hi => absurd hi (Nat.not_lt_zero _), L3K.out, R2.out.less (by omega), .inr ⟨by have := HJ0.out; omega, rfl⟩⟩
          case measure => have := HJ0.out; simp [intOf]; omega
        ·
          -- (some ⟨b9, o9 + m1, none⟩) A of the rest, 0 m, c1 - m1 cap, ⟨Bs.empty _ _ _ (by omega), fun b' off' h0 e => absurd h0 (by decide)⟩ the proof of KB
          go_wp2
          go_roundw
          case rel => exact ⟨j + 1, (some ⟨b9, o9 + m1, none⟩), 0, c1 - m1, [], s2, k2, L3, rfl, by go_num, H3.out, ⟨Bs.empty _ _ _ (by omega), fun b' off' h0 e => absurd h0 (by decide)⟩, S2.out, by rw [A2.out]; have := HAT.out; omega, fun i hi => absurd hi (Nat.not_lt_zero _), L3K.out, R2.out.less (by omega), .inr ⟨by have := HJ0.out; omega, rfl⟩⟩
          case measure => have := HJ0.out; simp [intOf]; omega
      · have de : decide (e2 = 0) = false := decide_eq_false he
        go_wp2
        go_ret
        exact ⟨false, by first | rfl | simp, L3, s2, k2, H3.out, L3K.out, S2.out.s, R2.out.less (by omega)⟩
    · obtain rfl : m1 = 0 := by omega
      have sf := saf_flush HD.out huR huN HI.out HAT.out
      have FLS := Lib.hid (lkflush H1.out (HR.out.less (by omega)))
      have rf : Room (flushK 0 c s1 k1).1 X := Room.flush (HR.out.less (by omega)) hc9 HI.out.len HI.out.n8
      generalize flushK 0 c s1 k1 = p at *
      obtain ⟨s2, k2, e2⟩ := p
      simp only [] at sf rf
      have S2 := Lib.hid sf
      have RX := Lib.hid rf
      clear sf rf
      go_wp2_with fail
      refine FLS.out.mono ?_
      rintro e w5 ⟨rfl, L5, h5, l5⟩
      have HE := Lib.hid h5
      have LE := Lib.hid (HL.out.trans l5)
      simp only [] at HE
      clear h5 l5 FLS
      go_wp2_with fail
      refine (N2.out _ _).mono ?_
      rintro e w' ⟨rfl, rfl⟩
      go_wp2
      go_ret
      exact ⟨_, rfl, L5, s2, k2, HE.out, LE.out, S2.out.s, RX.out⟩
end
end Go.Proofs.Ytngofnlhbhfigaa
