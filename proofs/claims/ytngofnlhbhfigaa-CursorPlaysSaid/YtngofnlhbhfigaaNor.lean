/- The walks of package nor. -/
import Derived.Test.YtngofnlhbhfigaaBytes
namespace Go.Proofs.Ytngofnlhbhfigaa
open Go.RowKit

/-- Can some bytes be programmed to others? -/
def canN (os ns : List Int) : Bool := decide (os.length = ns.length ∧ ∀ i, i < os.length → bits .andNot .u8 (ns.getD i 0) (os.getD i 0) = 0)
/-- A bool, and some draws. -/
def Told (b : Bool) (w : World) (e : Ending) (w' : World) : Prop := e = .returned (.bool b) ∧ ∃ m, w' = w.drewN m
theorem Told.same {b : Bool} {w : World} : Told b w (.returned (.bool b)) w := ⟨rfl, 0, rfl⟩

set_option maxRecDepth 100000 in
set_option maxHeartbeats 800000 in
theorem can_any (A1 A2 : Option Addr) (n1 c1 n2 c2 : Nat) (os ns : List Int) (w : World) (h1 : Bs w A1 n1 c1 os) (h2 : Bs w A2 n2 c2 ns) :
    Calls Try.prog 85 #[.slice A1 n1 c1, .slice A2 n2 c2] w (Told (canN os ns) w) := by
  have m1 := h1.le
  have m2 := h1.max
  have m3 := h2.le
  have m4 := h2.max
  by_cases hn : n1 = n2
  · subst hn
    have e1 : ((n1 : Int) != n1) = false := by simp
    have H1 := Lib.hid h1
    have H2 := Lib.hid h2
    clear h1 h2
    go_enter Try.func85, Try.ntmps85
    go_wp2
    go_loopw [13] (fun i wr => ∃ k m : Nat, k ≤ n1 ∧ i = .int .i64 k ∧ wr = w.drewN m ∧ ∀ i, i < k → bits .andNot .u8 (ns.getD i 0) (os.getD i 0) = 0) (fun i _ => n1 - (intOf i).toNat)
    case atStart => exact ⟨0, 0, Nat.zero_le _, rfl, rfl, fun i hi => by omega⟩
    case round =>
      obtain ⟨k, m, hkn, rfl, rfl, hall⟩ := hrel
      have HA := Lib.hid hall
      clear hall
      by_cases hlt : k < n1
      · obtain ⟨b1, o1, z1, rfl, g1, _, _, cc1⟩ := H1.out.get hlt
        obtain ⟨b2, o2, z2, rfl, g2, _, _, cc2⟩ := H2.out.get hlt
        have G1 := Lib.hid g1
        have G2 := Lib.hid g2
        clear g1 g2
        by_cases hb : bits .andNot .u8 z2 z1 = 0
        · have q : (bits .andNot .u8 z2 z1 != 0) = false := by simp [hb]
          have HB := Lib.hid hb
          clear hb
          go_wp2
          go_quiet (fail)
          go_wp2
          go_roundw
          case rel =>
            refine ⟨k + 1, m + nq, by omega, by go_num, (by first | rfl | rw [World.drewN_drewN]), fun i hi => ?_⟩
            by_cases h : i = k
            · subst h; rw [G1.out, G2.out]; exact HB.out
            · exact HA.out i (by omega)
          case measure => simp [intOf]; omega
        · have q : (bits .andNot .u8 z2 z1 != 0) = true := by simp [hb]
          have fin : canN os ns = false := by
            simp only [canN, decide_eq_false_iff_not]
            intro h
            exact hb (by rw [← G1.out, ← G2.out]; exact h.2 k (by have := H1.out.len; omega))
          have FIN := Lib.hid fin
          clear hb fin
          go_wp2
          go_quiet (fail)
          go_wp2
          go_ret
          exact ⟨ret_bool FIN.out.symm, m + nq, by first | rfl | rw [World.drewN_drewN]⟩
      · have fin : canN os ns = true := by
          simp only [canN, decide_eq_true_eq]
          have l1 := H1.out.len
          have l2 := H2.out.len
          exact ⟨by omega, fun i hi => HA.out i (by omega)⟩
        have FIN := Lib.hid fin
        clear fin
        go_wp2
        go_ret
        exact ⟨ret_bool FIN.out.symm, m, rfl⟩
  · have e1 : ((n1 : Int) != n2) = true := by simp; omega
    have fin : canN os ns = false := by
      simp only [canN, decide_eq_false_iff_not]
      have l1 := h1.len
      have l2 := h2.len
      intro h; exact hn (by omega)
    rw [fin]
    clear fin h1 h2 hn
    go_enter Try.func85, Try.ntmps85
    go_wp2
    go_ret
    exact ⟨rfl, 0, rfl⟩

set_option maxRecDepth 100000 in
set_option maxHeartbeats 800000 in
theorem nat_any (A : Option Addr) (n cap : Nat) (zs : List Int) (i : Nat) (w : World) (h : Bs w A n cap zs) (hi : i < 9223372036854775807) :
    Calls Try.prog 95 #[.slice A n cap, .int .i64 i] w fun e w' => e = .returned (.int .u8 (zs.getD i 0)) ∧ w = w' := by
  have m1 := h.le
  have m2 := h.max
  by_cases hlt : i < n
  · obtain ⟨b, off, z, rfl, g, _, _, cc⟩ := h.get hlt
    rw [g]
    clear g
    go_enter Try.func95, Try.ntmps95
    go_wp2
    go_ret
    exact ⟨rfl, rfl⟩
  · have g : zs.getD i 0 = 0 := by
      have := h.len
      simp [List.getD, List.getElem?_eq_none (show zs.length ≤ i by omega)]
    rw [g]
    clear g
    go_enter Try.func95, Try.ntmps95
    go_wp2
    go_ret
    exact ⟨rfl, rfl⟩

theorem bits_or_bd (a b : Int) (h1 : 0 ≤ a ∧ a ≤ 255) (h2 : 0 ≤ b ∧ b ≤ 255) : 0 ≤ bits .or .u8 a b ∧ bits .or .u8 a b ≤ 255 := by
  rw [u8_or a b h1.1 (by omega) h2.1 (by omega)]
  have : a.toNat ||| b.toNat < 2 ^ 8 := Nat.or_lt_two_pow (by omega) (by omega)
  omega
theorem bits_and_bd (a b : Int) (h1 : 0 ≤ a ∧ a ≤ 255) (h2 : 0 ≤ b ∧ b ≤ 255) : 0 ≤ bits .and .u8 a b ∧ bits .and .u8 a b ≤ 255 := by
  rw [u8_and a b h1.1 (by omega) h2.1 (by omega)]
  have : a.toNat &&& b.toNat ≤ a.toNat := Nat.and_le_left
  omega
/-- What stands there when bytes were programmed; nothing where they can't be. -/
def progN (os ns : List Int) : List Int := if canN os ns then ns else []

theorem Told.toKeeps {b : Bool} {w w' : World} {e : Ending} (h : Told b w e w') : Keeps None w w' := by
  obtain ⟨_, m, rfl⟩ := h; exact (Keeps.refl _ _).drewN m
theorem Cloned.from {w w1 w' : World} {zs : List Int} {e : Ending} (h : Cloned w1 zs e w') (k : Keeps None w w1) : Cloned w zs e w' := by
  obtain ⟨v, h1, h2, h3⟩ := h
  exact ⟨v, h1, h2.lower k.size, k.trans h3 (fun _ h => h) (fun _ _ h => h)⟩

set_option maxRecDepth 100000 in
set_option maxHeartbeats 800000 in
theorem program_any (A1 A2 : Option Addr) (n1 c1 n2 c2 : Nat) (os ns : List Int) (w : World) (h1 : Bs w A1 n1 c1 os) (h2 : Bs w A2 n2 c2 ns) (hn : n2 ≤ 1099511627776) :
    Calls Try.prog 74 #[.slice A1 n1 c1, .slice A2 n2 c2] w (Cloned w (progN os ns)) := by
  have HC := Lib.hid (can_any A1 A2 n1 c1 n2 c2 os ns w h1 h2)
  cases hc : canN os ns with
  | true =>
    rw [hc] at HC
    have fin : progN os ns = ns := by simp [progN, hc]
    have HK := Lib.hid fun m => clone_any A2 n2 c2 ns (w.drewN m) (h2.drewN m) hn
    have FIN := Lib.hid fin
    clear fin hc h1 h2
    go_enter Try.func74, Try.ntmps74
    go_wp2_with fail
    refine HC.out.mono ?_
    rintro e w1 ⟨rfl, m, rfl⟩
    go_wp2_with fail
    refine (HK.out m).mono ?_
    rintro e w1 ⟨v, rfl, ho, hk⟩
    go_wp2
    go_ret
    rw [FIN.out]
    exact Cloned.from ⟨v, rfl, ho, hk⟩ ((Keeps.refl _ _).drewN m)
  | false =>
    rw [hc] at HC
    have fin : progN os ns = [] := by simp [progN, hc]
    have FIN := Lib.hid fin
    clear fin hc h1 h2
    go_enter Try.func74, Try.ntmps74
    go_wp2_with fail
    refine HC.out.mono ?_
    rintro e w1 ⟨rfl, m, rfl⟩
    go_wp2
    go_ret
    rw [FIN.out]
    exact ⟨_, rfl, Own.nil _ _, (Keeps.refl _ _).drewN m⟩

/-- What stands there when power went while bytes were programmed. -/
def tornAt (os ns ps : List Int) (i : Nat) : Int := bits .or .u8 (ns.getD i 0) (bits .and .u8 (os.getD i 0) (ps.getD i 0))
def tornTo (os ns ps : List Int) (k : Nat) : List Int := (List.range ns.length).map fun i => if i < k then tornAt os ns ps i else ns.getD i 0
def tornN (os ns ps : List Int) : List Int := if canN os ns then tornTo os ns ps ns.length else []

theorem range_set (n k : Nat) (f : Nat → Int) (v : Int) (hk : k < n) : ((List.range n).map f).set k v = (List.range n).map fun i => if i = k then v else f i := by
  apply List.ext_getElem?
  intro i
  by_cases hi : i < n
  · by_cases h : k = i
    · subst h; simp [hi]
    · rw [List.getElem?_set_ne h]
      have h' : ¬ i = k := fun e => h e.symm
      simp [hi, h']
  · have : ¬ k = i := by omega
    rw [List.getElem?_set_ne this]
    simp [hi]
theorem tornTo_zero (os ns ps : List Int) : tornTo os ns ps 0 = ns := by
  unfold tornTo
  apply List.ext_getElem?
  intro i
  by_cases hi : i < ns.length
  · simp [hi]
  · simp [hi]
theorem tornTo_succ (os ns ps : List Int) (k : Nat) (hk : k < ns.length) : (tornTo os ns ps k).set k (tornAt os ns ps k) = tornTo os ns ps (k + 1) := by
  unfold tornTo
  rw [range_set _ _ _ _ hk]
  refine List.map_congr_left fun i _ => ?_
  by_cases h : i = k
  · subst h; simp
  · by_cases h2 : i < k
    · simp [h, h2, show i < k + 1 by omega]
    · simp [h, h2, show ¬ i < k + 1 by omega]
theorem tornTo_get (os ns ps : List Int) (k : Nat) (hk : k < ns.length) : (tornTo os ns ps k).getD k 0 = ns.getD k 0 := by
  unfold tornTo; simp [List.getD, hk]
theorem tornTo_length (os ns ps : List Int) (k : Nat) : (tornTo os ns ps k).length = ns.length := by simp [tornTo]

set_option maxRecDepth 100000 in
set_option maxHeartbeats 1600000 in
theorem torn_any (A1 A2 A3 : Option Addr) (n1 c1 n2 c2 n3 c3 : Nat) (os ns ps : List Int) (w : World) (h1 : Bs w A1 n1 c1 os) (h2 : Bs w A2 n2 c2 ns) (h3 : Bs w A3 n3 c3 ps) (hn : n2 ≤ 1099511627776) :
    Calls Try.prog 73 #[.slice A1 n1 c1, .slice A2 n2 c2, .slice A3 n3 c3] w (Cloned w (tornN os ns ps)) := by
  have HC := Lib.hid (can_any A1 A2 n1 c1 n2 c2 os ns w h1 h2)
  cases hc : canN os ns with
  | false =>
    rw [hc] at HC
    have fin : tornN os ns ps = [] := by simp [tornN, hc]
    have FIN := Lib.hid fin
    clear fin hc h1 h2 h3
    go_enter Try.func73, Try.ntmps73
    go_wp2_with fail
    refine HC.out.mono ?_
    rintro e w1 ⟨rfl, m, rfl⟩
    go_wp2
    go_ret
    rw [FIN.out]
    exact ⟨_, rfl, Own.nil _ _, (Keeps.refl _ _).drewN m⟩
  | true =>
    rw [hc] at HC
    have hlen : os.length = ns.length := by simp only [canN, decide_eq_true_eq] at hc; exact hc.1
    have fin : tornN os ns ps = tornTo os ns ps ns.length := by simp [tornN, hc]
    have HK := Lib.hid fun m => clone_any A2 n2 c2 ns (w.drewN m) (h2.drewN m) hn
    have FIN := Lib.hid fin
    have hl1 := h1.len
    have hl2 := h2.len
    have e12 : n1 = n2 := by omega
    have hb2 := h2.byte
    have H1 := Lib.hid h1
    have H3 := Lib.hid h3
    have hle1 := h1.le
    have hmx1 := h1.max
    clear fin hc h1 h2 h3
    subst e12
    have HL1 := Lib.hid hl1
    have HL2 := Lib.hid hl2
    have HB2 := Lib.hid hb2
    clear hlen hl1 hl2 hb2
    go_enter Try.func73, Try.ntmps73
    go_wp2_with fail
    refine HC.out.mono ?_
    rintro e w1 ⟨rfl, m, rfl⟩
    go_wp2_with fail
    refine (HK.out m).mono ?_
    rintro e w1 ⟨v, rfl, ho, hk⟩
    obtain ⟨A, cap, hv, hbs, hfr⟩ := ho.shape
    rw [HL2.out] at hv hbs
    subst hv
    have hle := hbs.le
    have hmx := hbs.max
    have k1 : Keeps None w w1 := ⟨hk.os, hk.tape, hk.output, hk.size, hk.block⟩
    have HO := Lib.hid ho
    clear ho hbs hfr hk HC HK
    go_wp2
    go_loopw [17] (fun i wr => ∃ k : Nat, k ≤ n1 ∧ i = .int .i64 k ∧ Own wr w.heap.size (.slice A n1 cap) (tornTo os ns ps k) ∧ Keeps (fun b => w.heap.size ≤ b) w wr) (fun i _ => n1 - (intOf i).toNat)
    case atStart => exact ⟨0, Nat.zero_le _, rfl, by rw [tornTo_zero]; exact HO.out, k1.ofNone⟩
    case round =>
      obtain ⟨k, hkn, rfl, hO, hK⟩ := hrel
      by_cases hlt : k < n1
      · obtain ⟨g, rfl, hg1, hg2, hgl, hle', hmx', hgc, hgf⟩ := hO.at_ hlt
        obtain ⟨b1, o1, z1, rfl, g1, z1a, z1b, cc0⟩ := H1.out.get hlt
        have hb1 : b1 < w.heap.size := by obtain ⟨b, off, e, hb, _⟩ := H1.out.at_ (by omega); cases e; exact hb
        have cc1 := (hK.cell (p := ⟨b1, o1 + k, none⟩) hb1 (by simp; exact hb1)).trans cc0
        have hP : Bs wr A3 n3 c3 ps := H3.out.later hK
        have hT : tornTo os ns ps k = tornTo os ns ps k := rfl
        have z2b := byte_getD HB2.out k
        rw [tornTo_get os ns ps k (by rw [HL2.out]; exact hlt)] at hgc
        have z3b := byte_getD hP.byte k
        have HT := Lib.hid (show bits .or .u8 (ns.getD k 0) (bits .and .u8 z1 (ps.getD k 0)) = tornAt os ns ps k from by rw [tornAt, g1])
        have NA := Lib.hid (nat_any A3 n3 c3 ps k wr.drew hP.drew (by omega))
        have z13 := bits_and_bd z1 (ps.getD k 0) ⟨z1a, z1b⟩ z3b
        have z4 := bits_or_bd (ns.getD k 0) _ z2b z13
        generalize ns.getD k 0 = z2 at *
        generalize ps.getD k 0 = z3 at *
        have HO2 := Lib.hid (hO.store rfl k _ z4 (by rw [tornTo_length, HL2.out]; exact hlt))
        have HK2 := Lib.hid hK
        clear hO hK hP hT g1 HO hgl
        go_wp2
        obtain ⟨mS, mh⟩ : ∃ S : World → Prop, ∀ w', S w' ↔ (w'.cell? ⟨g, k, none⟩ = some (.int .u8 z2) ∧ w'.cell? ⟨b1, o1 + k, none⟩ = some (.int .u8 z1)) := ⟨_, fun _ => Iff.rfl⟩
        have mk0 : ∀ x : Memb mS, x.at_.cell? ⟨g, k, none⟩ = some (.int .u8 z2) := fun x => ((mh _).1 x.is).1
        have mk1 : ∀ x : Memb mS, x.at_.cell? ⟨b1, o1 + k, none⟩ = some (.int .u8 z1) := fun x => ((mh _).1 x.is).2
        have mn : Nonempty (Memb mS) := ⟨⟨(wr).drew, (mh _).2 ⟨hgc, cc1⟩⟩⟩
        have mH := Lib.hid mh
        clear mh
        refine wp_region_mix [10, 14] (InS mS) (by kernel_rfl) (by kernel_rfl) (InS.mk ((mH.out _).2 ⟨hgc, cc1⟩)) ?_
        refine wpMix_seg 10 (by kernel_rfl) (by decide) ?_
        simp only [List.take_succ_cons, List.take_zero, List.drop_succ_cons, List.drop_zero]
        repeat (go_big_quiet_step (fail))
        refine wpQuiet_nil ?_
        refine wpMix_eff (by kernel_rfl) ?_
        go_wp2_with fail
        refine NA.out.mono ?_
        rintro e w3 ⟨rfl, rfl⟩
        go_wp2
        refine MixK.on (InS.mk ((mH.out _).2 ⟨hgc, cc1⟩)) ?_
        refine wpMix_seg 3 (by kernel_rfl) (by decide) ?_
        simp only [List.take_succ_cons, List.take_zero, List.drop_succ_cons, List.drop_zero]
        repeat (go_big_quiet_step (fail))
        refine wpQuiet_nil ?_
        refine wpMix_eff (by kernel_rfl) ?_
        go_wp2
        refine MixK.last (by kernel_rfl) ?_
        refine wpMix_nil ?_
        clear mk0 mk1 mn mH
        go_wp2
        go_roundw
        case rel =>
          refine ⟨k + 1, by omega, by go_num, ?_, ?_⟩
          · rw [← tornTo_succ os ns ps k (by rw [HL2.out]; exact hlt), ← HT.out]; exact HO2.out.drew
          · exact (HK2.out.setCell _ _ (fun _ => hg1)).drew
        case measure => simp [intOf]; omega
      · have e : k = n1 := by omega
        subst e
        have fin : tornTo os ns ps k = tornN os ns ps := by rw [FIN.out, HL2.out]
        have FIN2 := Lib.hid fin
        have HO2 := Lib.hid hO
        have HK2 := Lib.hid hK
        clear hO hK fin HO
        go_wp2
        go_ret
        exact ⟨_, rfl, by rw [← FIN2.out]; exact HO2.out, HK2.out.mono (fun i hi h => absurd h (Nat.not_le.2 hi))⟩

/-- May bytes be seen when power went while they were programmed? -/
def betweenN (os ns ss : List Int) : Bool := canN os ns && canN os ss && canN ss ns

theorem Told.to {b b' : Bool} {w w' : World} {n : Nat} {e : Ending} (h : Told b (w.drewN n) e w') (hb : b = b') : Told b' w e w' := by
  obtain ⟨h1, m, h2⟩ := h
  exact ⟨by rw [← hb]; exact h1, n + m, by rw [h2, World.drewN_drewN]⟩

set_option maxHeartbeats 800000 in
theorem risen_any (A1 A2 : Option Addr) (n1 c1 n2 c2 : Nat) (os ss : List Int) (w : World) (h1 : Bs w A1 n1 c1 os) (h2 : Bs w A2 n2 c2 ss) :
    Calls Try.prog 41 #[.slice A1 n1 c1, .slice A2 n2 c2] w (Told (canN ss os) w) := by
  have C1 := Lib.hid (can_any A2 A1 n2 c2 n1 c1 ss os w h2 h1)
  clear h1 h2
  go_enter Try.func41, Try.ntmps41
  go_wp2_with fail
  refine C1.out.mono ?_
  rintro e w1 ⟨rfl, m, rfl⟩
  go_wp2
  go_ret
  exact ⟨rfl, m, rfl⟩
end Go.Proofs.Ytngofnlhbhfigaa
