
/- JournalWrong: what is refused. -/
import Derived.Test.YtbefbojeojokjaaJEpXJl3
import Derived.Test.YtbefbojeojokjaaJWrXJl4
import Derived.Test.YtbefbojeojokjaaJEpXFrame
import Derived.Test.YtbefbojeojokjaaJEpXInit
namespace Go.Proofs.Ytbefbojeojokjaa
open Go.RowKit Go.ChangeShapes Go.WideShapes Go.Deep

def wrL (kind : Int) (n : Nat) : List Rec := [⟨kind, 0, List.replicate n 0⟩, ⟨kind, 0, List.replicate n 0⟩]
def wrB (kind : Int) (n : Nat) : Bool := decide (2 ≤ kind ∧ kind ≤ 250 ∧ n ≤ 512 ∧ 2 * ((n + 7) / 8 * 8 + 16) ≤ 1008)
theorem wr_pack (kind : Int) (n : Nat) : (packF [] (numR 0 (wrL kind n))).isSome = wrB kind n := by
  have hl : (List.replicate n (0 : Int)).length = n := List.length_replicate
  show (packF [] [⟨kind, 1, List.replicate n 0⟩, ⟨kind, 2, List.replicate n 0⟩]).isSome = _
  unfold packF
  by_cases hf : fitsR kind 1 n
  · have h1 := putL_len kind 1 (List.replicate n 0) (by rw [hl]; exact hf)
    obtain ⟨f1, f2, f3, f4, f5⟩ := hf
    have h2 := putL_len kind 2 (List.replicate n 0) (by rw [hl]; exact ⟨f1, f2, by decide, by decide, f5⟩)
    have h6 : sizeZ n = 16 + ((n : Int) + 7) / 8 * 8 := if_neg (by omega)
    rw [hl, h6] at h1 h2
    obtain ⟨p, hp⟩ : ∃ p : Nat, (n + 7) / 8 * 8 + 16 = p := ⟨_, rfl⟩
    have e1 : (Rec.put ⟨kind, 1, List.replicate n 0⟩).length = p := show (putL kind 1 (List.replicate n 0)).length = p by omega
    have e2 : (Rec.put ⟨kind, 2, List.replicate n 0⟩).length = p := show (putL kind 2 (List.replicate n 0)).length = p by omega
    unfold wrB packF
    simp only [List.nil_append, e1, e2, List.length_nil, hp]
    by_cases k1 : kind = 1
    · rw [if_pos (.inl k1), decide_eq_false (by omega)]; rfl
    · rw [if_neg (by omega)]
      by_cases q : 2 * p ≤ 1008
      · rw [if_neg (by omega), decide_eq_true (by omega)]
        rfl
      · rw [if_pos (by omega), decide_eq_false (by omega)]; rfl
  · have e1 : (Rec.put ⟨kind, 1, List.replicate n 0⟩).length = 0 := by show (putL _ _ _).length = 0; unfold putL; rw [if_neg (by rw [hl]; exact hf)]; rfl
    rw [if_pos (.inr (.inl e1))]
    have : wrB kind n = false := by
      refine decide_eq_false fun h => hf ⟨by omega, h.2.1, by decide, by decide, h.2.2.1⟩
    rw [this]; rfl
theorem wr_cmp {s : FS} (v : Live s 4 0 (-1) [] [] 100) (kind : Int) (n : Nat) : ∃ s' e c l T, cmpF s (keptJ 0 (-1) [] []) (wrL kind n) = (s', keptJ e c l T, if wrB kind n = true then 0 else 1) ∧ Live s' 4 e c l T 99 := by
  have hp := wr_pack kind n
  rcases v.cmp (m := 99) (by decide) (wrL kind n) (fun r hr => by
    have : r.b = List.replicate n 0 := by
      rcases List.mem_cons.1 hr with rfl | hr
      · rfl
      · rw [List.mem_singleton.1 hr]
    rw [this]
    intro z hz; rw [List.eq_of_mem_replicate hz]; decide) with ⟨h0, h1⟩ | ⟨s', h0, -, -, h1, h2, -⟩
  · rw [h0] at hp
    rw [← hp]
    exact ⟨s, _, _, _, _, h1, v.less (by decide)⟩
  · rw [h0] at hp
    rw [← hp]
    exact ⟨s', _, _, _, _, h1, h2⟩
set_option maxRecDepth 100000 in
set_option maxHeartbeats 3200000 in
theorem wrong_any (count kind n : Int) (W : World) : Calls Try.prog 6 #[.int .i64 count, .int .i64 kind, .int .i64 n] W fun e W' => e = .returned (.bool true) ∧ Below W.heap.size W W' := by
  have AL := Lib.hid (alive22_any W)
  go_enter Try.func6, Try.ntmps6
  go_wp2_with fail
  refine AL.out.mono ?_
  rintro e w1 ⟨rfl, k1⟩
  by_cases g1 : n < 0
  · have d1 : decide (n < 0) = true := decide_eq_true g1
    go_wp2
    go_ret
    exact ⟨rfl, k1.below (fun _ _ h => h)⟩
  have d1 : decide (n < 0) = false := decide_eq_false g1
  by_cases g2 : 700 < n
  · have d2 : decide (700 < n) = true := decide_eq_true g2
    go_wp2
    go_ret
    exact ⟨rfl, k1.below (fun _ _ h => h)⟩
  have d2 : decide (700 < n) = false := decide_eq_false g2
  obtain ⟨m, rfl⟩ : ∃ m : Nat, n = m := ⟨n.toNat, by omega⟩
  have HM : Hid (m ≤ 700) := by show m ≤ 700; omega
  have V0 := Lib.hid (Live.new 4 (by decide) (by decide))
  have NW := Lib.hid (lnew k1 ((4 : Nat) : Int))
  obtain ⟨s1, e1, c1, l1, T1, p1, v1⟩ := wr_cmp (Live.new 4 (by decide) (by decide)) kind m
  have P1 := Lib.hid p1
  have V1 := Lib.hid v1
  have OPN := Lib.hid (fun (w : World) B q L (h : LF W w B q L (newF ((4 : Nat) : Int))) => V0.out.opened h)
  have OPN1 := Lib.hid (fun (w : World) B q L (h : LF W w B q L s1) => v1.opened h)
  have EL : Hid ((newF ((4 : Nat) : Int)).er.length = 4) := V0.out.g.el
  clear p1 v1 AL k1
  generalize newF ((4 : Nat) : Int) = f0 at *
  go_wp2_with fail
  refine NW.out.mono ?_
  rintro e w2 ⟨q, L, rfl, hF⟩
  have HF := Lib.hid hF
  have OF := Lib.hid (lgof hF 0 count)
  rw [EL.out] at OF
  clear hF NW g1 g2
  go_wp2_with fail
  refine OF.out.mono ?_
  rintro e w3 ⟨rfl, k3⟩
  have H3 := Lib.hid (HF.out.later k3)
  clear k3 HF OF
  have HK := Lib.hid H3.out.keeps
  by_cases c2 : count = 2
  · subst c2
    rw [ofF_yes (show someB 0 2 ((4 : Nat) : Int) = true from rfl), Int.zero_add]
    have OPJ := Lib.hid (fun w' (k : Keeps None w3 w') => jopen_yes _ L f0 q w' (H3.out.at_.later k) H3.out.q V0.out.dark (by have h1 := H3.out.at_.el; rw [EL.out] at h1; omega))
    go_wp2_with fail
    refine (OPJ.out _ ((Keeps.refl None _).alloc _)).mono ?_
    rintro e w4 ⟨X4, rfl, -, -, k4, -⟩
    have H4 := Lib.hid ((H3.out.alloc _).later k4)
    clear k4 OPJ H3
    go_wp2_with fail
    refine (num22_any _ _).mono ?_
    rintro e w5 ⟨rfl, rfl⟩
    go_wp2_with fail
    refine (num22_any _ _).mono ?_
    rintro e w5 ⟨rfl, rfl⟩
    go_wp2_with fail
    refine (OPN.out _ _ _ _ H4.out).mono ?_
    rintro e w6 ⟨X, jb, rfl, h6, -, -⟩
    have H6 := Lib.hid h6
    clear h6 H4
    go_wp2_with fail
    refine (jappend_nil _ _ _ _ _).mono ?_
    rintro e w7 ⟨rfl, rfl⟩
    go_wp2_with fail
    refine (num22_any _ _).mono ?_
    rintro e w7 ⟨rfl, rfl⟩
    go_wp2_with fail
    refine (jcompact_nil _ _ _ _).mono ?_
    rintro e w7 ⟨rfl, rfl⟩
    go_wp2_with fail
    refine (num22_any _ _).mono ?_
    rintro e w7 ⟨rfl, rfl⟩
    go_wp2_with fail
    refine (jepoch_nil _).mono ?_
    rintro e w7 ⟨rfl, rfl⟩
    go_wp2_with fail
    refine (jtorn_nil _).mono ?_
    rintro e w7 ⟨rfl, rfl⟩
    go_wp2_with fail
    refine (jroom_nil _).mono ?_
    rintro e w7 ⟨rfl, rfl⟩
    go_wp2_with fail
    refine (jall_nil _).mono ?_
    rintro e w7 ⟨rfl, rfl⟩
    have hm := HM.out
    have hmk := fun w => run_make_blk (P := Try.prog) 22 5 (.int .u8 0) 1 Try.underlying22 Try.info5 rfl .i64 .i64 (m : Int) (m : Int) m rfl rfl (by omega) (by omega) w
    by_cases a1 : 2 ≤ kind
    · have e1 : decide (2 ≤ kind) = true := decide_eq_true a1
      by_cases a2 : kind ≤ 250
      · have e2 : decide (kind ≤ 250) = true := decide_eq_true a2
        by_cases a3 : m ≤ 512
        · have e3 : decide ((m : Int) ≤ 512) = true := decide_eq_true (by omega)
          by_cases a4 : 2 * ((m + 7) / 8 * 8 + 16) ≤ 1008
          · have e4 : decide (2 * (((m : Int) + 7) / 8 * 8 + 16) ≤ 1008) = true := decide_eq_true (by omega)
            have hwb : wrB kind m = true := by unfold wrB; exact (decide_eq_true (by omega))
            rw [hwb] at P1
            clear hwb
            go_wp2_with fail
            have HB1 := Lib.hid (((madeB w6 m (by omega)).alloc (.cells #[.int .i64 kind, .int .i64 0, .slice (some ⟨w6.heap.size, 0, none⟩) m m] 32)).alloc (.cells #[.int .i64 kind, .int .i64 0, .slice (some ⟨w6.heap.size, 0, none⟩) m m, .int .i64 kind, .int .i64 0, .slice (some ⟨w6.heap.size, 0, none⟩) m m] 32))
            have HA := Lib.hid (((H6.out.alloc (.cells (Array.replicate m (Value.int .u8 0)) 5)).alloc (.cells #[.int .i64 kind, .int .i64 0, .slice (some ⟨w6.heap.size, 0, none⟩) m m] 32)).alloc (.cells #[.int .i64 kind, .int .i64 0, .slice (some ⟨w6.heap.size, 0, none⟩) m m, .int .i64 kind, .int .i64 0, .slice (some ⟨w6.heap.size, 0, none⟩) m m] 32))
            have HLR : Hid ((List.replicate m (0 : Int)).length = m) := List.length_replicate
            obtain ⟨zs, hzs⟩ : ∃ x, List.replicate m (0 : Int) = x := ⟨_, rfl⟩
            have hwl : wrL kind m = [(⟨kind, 0, some ⟨w6.heap.size, 0, none⟩, m, zs⟩ : RV), ⟨kind, 0, some ⟨w6.heap.size, 0, none⟩, m, zs⟩].map RV.r := by rw [← hzs]; rfl
            rw [hwl] at P1
            rw [hzs] at HB1 HLR
            clear hwl hzs
            refine (ljcompact HA.out V0.out (rs := [(⟨kind, 0, some ⟨w6.heap.size, 0, none⟩, m, zs⟩ : RV), ⟨kind, 0, some ⟨w6.heap.size, 0, none⟩, m, zs⟩]) (P := fun _ => True) (Rws.two (T := 32) _ _ ?_) ⟨fun r hr => ?_, fun r hr x hx => ⟨trivial, ?_⟩⟩ (by decide) (fun r hr => ?_)).mono ?_
            · have := Blk.newAt (X := (w6.alloc (.cells (Array.replicate m (Value.int .u8 0)) 5)).alloc (.cells #[.int .i64 kind, .int .i64 0, .slice (some ⟨w6.heap.size, 0, none⟩) m m] 32)) (b := w6.heap.size + 1 + 1) (by simp) [.int .i64 kind, .int .i64 0, .slice (some ⟨w6.heap.size, 0, none⟩) m m, .int .i64 kind, .int .i64 0, .slice (some ⟨w6.heap.size, 0, none⟩) m m] 32
              show Blk _ _ [.int .i64 kind, .int .i64 0, .slice (some ⟨w6.heap.size, 0, none⟩) zs.length m, .int .i64 kind, .int .i64 0, .slice (some ⟨w6.heap.size, 0, none⟩) zs.length m] _
              rw [HLR.out]
              exact this
            · obtain rfl : r = ⟨kind, 0, some ⟨w6.heap.size, 0, none⟩, m, zs⟩ := by simpa using hr
              show Bs _ _ zs.length m zs
              rw [HLR.out]
              exact HB1.out
            · obtain rfl : r = ⟨kind, 0, some ⟨w6.heap.size, 0, none⟩, m, zs⟩ := by simpa using hr
              obtain ⟨off, h0, e⟩ := hx
              have h0 : 0 < zs.length := h0
              rw [HLR.out] at h0
              exact HB1.out.blt h0 e
            · obtain rfl : r = ⟨kind, 0, some ⟨w6.heap.size, 0, none⟩, m, zs⟩ := by simpa using hr
              show zs.length ≤ _
              rw [HLR.out]; omega
            rw [P1.out]
            rintro e w8 ⟨rfl, X8, h8, -⟩
            have H8 := Lib.hid h8
            have OK8 := Lib.hid V1.out.keep.ok
            simp only [] at H8
            clear h8 HA HB1 H6
            go_wp2_with fail
            refine (num22_any _ _).mono ?_
            rintro e w9 ⟨rfl, rfl⟩
            go_wp2_with fail
            refine (OPN1.out _ _ _ _ H8.out.lf).mono ?_
            rintro e wA ⟨XA, jbA, rfl, hA, -, kA⟩
            have HA := Lib.hid hA
            have HJ := Lib.hid (H8.out.later kA)
            clear hA kA H8
            go_wp2_with fail
            refine (ljall HA.out OK8.out).mono ?_
            rintro e wB ⟨AB, cB, rB, rfl, -, -, kB⟩
            have HJ2 := Lib.hid (HJ.out.later kB)
            clear HJ kB HA
            go_wp2_with fail
            refine (ljall HJ2.out OK8.out).mono ?_
            rintro e wC ⟨AC, cC, rC, rfl, -, -, kC⟩
            have HC := Lib.hid (HJ2.out.later kC)
            clear HJ2 kC
            go_wp2
            go_ret
            exact ⟨rfl, HC.out.keeps.below (fun _ _ h => h)⟩
          · have e4 : decide (2 * (((m : Int) + 7) / 8 * 8 + 16) ≤ 1008) = false := decide_eq_false (by omega)
            have hwb : wrB kind m = false := by unfold wrB; exact (decide_eq_false (by omega))
            rw [hwb] at P1
            clear hwb
            go_wp2_with fail
            have HB1 := Lib.hid (((madeB w6 m (by omega)).alloc (.cells #[.int .i64 kind, .int .i64 0, .slice (some ⟨w6.heap.size, 0, none⟩) m m] 32)).alloc (.cells #[.int .i64 kind, .int .i64 0, .slice (some ⟨w6.heap.size, 0, none⟩) m m, .int .i64 kind, .int .i64 0, .slice (some ⟨w6.heap.size, 0, none⟩) m m] 32))
            have HA := Lib.hid (((H6.out.alloc (.cells (Array.replicate m (Value.int .u8 0)) 5)).alloc (.cells #[.int .i64 kind, .int .i64 0, .slice (some ⟨w6.heap.size, 0, none⟩) m m] 32)).alloc (.cells #[.int .i64 kind, .int .i64 0, .slice (some ⟨w6.heap.size, 0, none⟩) m m, .int .i64 kind, .int .i64 0, .slice (some ⟨w6.heap.size, 0, none⟩) m m] 32))
            have HLR : Hid ((List.replicate m (0 : Int)).length = m) := List.length_replicate
            obtain ⟨zs, hzs⟩ : ∃ x, List.replicate m (0 : Int) = x := ⟨_, rfl⟩
            have hwl : wrL kind m = [(⟨kind, 0, some ⟨w6.heap.size, 0, none⟩, m, zs⟩ : RV), ⟨kind, 0, some ⟨w6.heap.size, 0, none⟩, m, zs⟩].map RV.r := by rw [← hzs]; rfl
            rw [hwl] at P1
            rw [hzs] at HB1 HLR
            clear hwl hzs
            refine (ljcompact HA.out V0.out (rs := [(⟨kind, 0, some ⟨w6.heap.size, 0, none⟩, m, zs⟩ : RV), ⟨kind, 0, some ⟨w6.heap.size, 0, none⟩, m, zs⟩]) (P := fun _ => True) (Rws.two (T := 32) _ _ ?_) ⟨fun r hr => ?_, fun r hr x hx => ⟨trivial, ?_⟩⟩ (by decide) (fun r hr => ?_)).mono ?_
            · have := Blk.newAt (X := (w6.alloc (.cells (Array.replicate m (Value.int .u8 0)) 5)).alloc (.cells #[.int .i64 kind, .int .i64 0, .slice (some ⟨w6.heap.size, 0, none⟩) m m] 32)) (b := w6.heap.size + 1 + 1) (by simp) [.int .i64 kind, .int .i64 0, .slice (some ⟨w6.heap.size, 0, none⟩) m m, .int .i64 kind, .int .i64 0, .slice (some ⟨w6.heap.size, 0, none⟩) m m] 32
              show Blk _ _ [.int .i64 kind, .int .i64 0, .slice (some ⟨w6.heap.size, 0, none⟩) zs.length m, .int .i64 kind, .int .i64 0, .slice (some ⟨w6.heap.size, 0, none⟩) zs.length m] _
              rw [HLR.out]
              exact this
            · obtain rfl : r = ⟨kind, 0, some ⟨w6.heap.size, 0, none⟩, m, zs⟩ := by simpa using hr
              show Bs _ _ zs.length m zs
              rw [HLR.out]
              exact HB1.out
            · obtain rfl : r = ⟨kind, 0, some ⟨w6.heap.size, 0, none⟩, m, zs⟩ := by simpa using hr
              obtain ⟨off, h0, e⟩ := hx
              have h0 : 0 < zs.length := h0
              rw [HLR.out] at h0
              exact HB1.out.blt h0 e
            · obtain rfl : r = ⟨kind, 0, some ⟨w6.heap.size, 0, none⟩, m, zs⟩ := by simpa using hr
              show zs.length ≤ _
              rw [HLR.out]; omega
            rw [P1.out]
            rintro e w8 ⟨rfl, X8, h8, -⟩
            have H8 := Lib.hid h8
            have OK8 := Lib.hid V1.out.keep.ok
            simp only [] at H8
            clear h8 HA HB1 H6
            go_wp2_with fail
            refine (num22_any _ _).mono ?_
            rintro e w9 ⟨rfl, rfl⟩
            go_wp2_with fail
            refine (OPN1.out _ _ _ _ H8.out.lf).mono ?_
            rintro e wA ⟨XA, jbA, rfl, hA, -, kA⟩
            have HA := Lib.hid hA
            have HJ := Lib.hid (H8.out.later kA)
            clear hA kA H8
            go_wp2_with fail
            refine (ljall HA.out OK8.out).mono ?_
            rintro e wB ⟨AB, cB, rB, rfl, -, -, kB⟩
            have HJ2 := Lib.hid (HJ.out.later kB)
            clear HJ kB HA
            go_wp2_with fail
            refine (ljall HJ2.out OK8.out).mono ?_
            rintro e wC ⟨AC, cC, rC, rfl, -, -, kC⟩
            have HC := Lib.hid (HJ2.out.later kC)
            clear HJ2 kC
            go_wp2
            go_ret
            exact ⟨rfl, HC.out.keeps.below (fun _ _ h => h)⟩
        · have e3 : decide ((m : Int) ≤ 512) = false := decide_eq_false (by omega)
          have hwb : wrB kind m = false := by unfold wrB; exact (decide_eq_false (by omega))
          rw [hwb] at P1
          clear hwb
          go_wp2_with fail
          have HB1 := Lib.hid (((madeB w6 m (by omega)).alloc (.cells #[.int .i64 kind, .int .i64 0, .slice (some ⟨w6.heap.size, 0, none⟩) m m] 32)).alloc (.cells #[.int .i64 kind, .int .i64 0, .slice (some ⟨w6.heap.size, 0, none⟩) m m, .int .i64 kind, .int .i64 0, .slice (some ⟨w6.heap.size, 0, none⟩) m m] 32))
          have HA := Lib.hid (((H6.out.alloc (.cells (Array.replicate m (Value.int .u8 0)) 5)).alloc (.cells #[.int .i64 kind, .int .i64 0, .slice (some ⟨w6.heap.size, 0, none⟩) m m] 32)).alloc (.cells #[.int .i64 kind, .int .i64 0, .slice (some ⟨w6.heap.size, 0, none⟩) m m, .int .i64 kind, .int .i64 0, .slice (some ⟨w6.heap.size, 0, none⟩) m m] 32))
          have HLR : Hid ((List.replicate m (0 : Int)).length = m) := List.length_replicate
          obtain ⟨zs, hzs⟩ : ∃ x, List.replicate m (0 : Int) = x := ⟨_, rfl⟩
          have hwl : wrL kind m = [(⟨kind, 0, some ⟨w6.heap.size, 0, none⟩, m, zs⟩ : RV), ⟨kind, 0, some ⟨w6.heap.size, 0, none⟩, m, zs⟩].map RV.r := by rw [← hzs]; rfl
          rw [hwl] at P1
          rw [hzs] at HB1 HLR
          clear hwl hzs
          refine (ljcompact HA.out V0.out (rs := [(⟨kind, 0, some ⟨w6.heap.size, 0, none⟩, m, zs⟩ : RV), ⟨kind, 0, some ⟨w6.heap.size, 0, none⟩, m, zs⟩]) (P := fun _ => True) (Rws.two (T := 32) _ _ ?_) ⟨fun r hr => ?_, fun r hr x hx => ⟨trivial, ?_⟩⟩ (by decide) (fun r hr => ?_)).mono ?_
          · have := Blk.newAt (X := (w6.alloc (.cells (Array.replicate m (Value.int .u8 0)) 5)).alloc (.cells #[.int .i64 kind, .int .i64 0, .slice (some ⟨w6.heap.size, 0, none⟩) m m] 32)) (b := w6.heap.size + 1 + 1) (by simp) [.int .i64 kind, .int .i64 0, .slice (some ⟨w6.heap.size, 0, none⟩) m m, .int .i64 kind, .int .i64 0, .slice (some ⟨w6.heap.size, 0, none⟩) m m] 32
            show Blk _ _ [.int .i64 kind, .int .i64 0, .slice (some ⟨w6.heap.size, 0, none⟩) zs.length m, .int .i64 kind, .int .i64 0, .slice (some ⟨w6.heap.size, 0, none⟩) zs.length m] _
            rw [HLR.out]
            exact this
          · obtain rfl : r = ⟨kind, 0, some ⟨w6.heap.size, 0, none⟩, m, zs⟩ := by simpa using hr
            show Bs _ _ zs.length m zs
            rw [HLR.out]
            exact HB1.out
          · obtain rfl : r = ⟨kind, 0, some ⟨w6.heap.size, 0, none⟩, m, zs⟩ := by simpa using hr
            obtain ⟨off, h0, e⟩ := hx
            have h0 : 0 < zs.length := h0
            rw [HLR.out] at h0
            exact HB1.out.blt h0 e
          · obtain rfl : r = ⟨kind, 0, some ⟨w6.heap.size, 0, none⟩, m, zs⟩ := by simpa using hr
            show zs.length ≤ _
            rw [HLR.out]; omega
          rw [P1.out]
          rintro e w8 ⟨rfl, X8, h8, -⟩
          have H8 := Lib.hid h8
          have OK8 := Lib.hid V1.out.keep.ok
          simp only [] at H8
          clear h8 HA HB1 H6
          go_wp2_with fail
          refine (num22_any _ _).mono ?_
          rintro e w9 ⟨rfl, rfl⟩
          go_wp2_with fail
          refine (OPN1.out _ _ _ _ H8.out.lf).mono ?_
          rintro e wA ⟨XA, jbA, rfl, hA, -, kA⟩
          have HA := Lib.hid hA
          have HJ := Lib.hid (H8.out.later kA)
          clear hA kA H8
          go_wp2_with fail
          refine (ljall HA.out OK8.out).mono ?_
          rintro e wB ⟨AB, cB, rB, rfl, -, -, kB⟩
          have HJ2 := Lib.hid (HJ.out.later kB)
          clear HJ kB HA
          go_wp2_with fail
          refine (ljall HJ2.out OK8.out).mono ?_
          rintro e wC ⟨AC, cC, rC, rfl, -, -, kC⟩
          have HC := Lib.hid (HJ2.out.later kC)
          clear HJ2 kC
          go_wp2
          go_ret
          exact ⟨rfl, HC.out.keeps.below (fun _ _ h => h)⟩
      · have e2 : decide (kind ≤ 250) = false := decide_eq_false a2
        have hwb : wrB kind m = false := by unfold wrB; exact (decide_eq_false (by omega))
        rw [hwb] at P1
        clear hwb
        go_wp2_with fail
        have HB1 := Lib.hid (((madeB w6 m (by omega)).alloc (.cells #[.int .i64 kind, .int .i64 0, .slice (some ⟨w6.heap.size, 0, none⟩) m m] 32)).alloc (.cells #[.int .i64 kind, .int .i64 0, .slice (some ⟨w6.heap.size, 0, none⟩) m m, .int .i64 kind, .int .i64 0, .slice (some ⟨w6.heap.size, 0, none⟩) m m] 32))
        have HA := Lib.hid (((H6.out.alloc (.cells (Array.replicate m (Value.int .u8 0)) 5)).alloc (.cells #[.int .i64 kind, .int .i64 0, .slice (some ⟨w6.heap.size, 0, none⟩) m m] 32)).alloc (.cells #[.int .i64 kind, .int .i64 0, .slice (some ⟨w6.heap.size, 0, none⟩) m m, .int .i64 kind, .int .i64 0, .slice (some ⟨w6.heap.size, 0, none⟩) m m] 32))
        have HLR : Hid ((List.replicate m (0 : Int)).length = m) := List.length_replicate
        obtain ⟨zs, hzs⟩ : ∃ x, List.replicate m (0 : Int) = x := ⟨_, rfl⟩
        have hwl : wrL kind m = [(⟨kind, 0, some ⟨w6.heap.size, 0, none⟩, m, zs⟩ : RV), ⟨kind, 0, some ⟨w6.heap.size, 0, none⟩, m, zs⟩].map RV.r := by rw [← hzs]; rfl
        rw [hwl] at P1
        rw [hzs] at HB1 HLR
        clear hwl hzs
        refine (ljcompact HA.out V0.out (rs := [(⟨kind, 0, some ⟨w6.heap.size, 0, none⟩, m, zs⟩ : RV), ⟨kind, 0, some ⟨w6.heap.size, 0, none⟩, m, zs⟩]) (P := fun _ => True) (Rws.two (T := 32) _ _ ?_) ⟨fun r hr => ?_, fun r hr x hx => ⟨trivial, ?_⟩⟩ (by decide) (fun r hr => ?_)).mono ?_
        · have := Blk.newAt (X := (w6.alloc (.cells (Array.replicate m (Value.int .u8 0)) 5)).alloc (.cells #[.int .i64 kind, .int .i64 0, .slice (some ⟨w6.heap.size, 0, none⟩) m m] 32)) (b := w6.heap.size + 1 + 1) (by simp) [.int .i64 kind, .int .i64 0, .slice (some ⟨w6.heap.size, 0, none⟩) m m, .int .i64 kind, .int .i64 0, .slice (some ⟨w6.heap.size, 0, none⟩) m m] 32
          show Blk _ _ [.int .i64 kind, .int .i64 0, .slice (some ⟨w6.heap.size, 0, none⟩) zs.length m, .int .i64 kind, .int .i64 0, .slice (some ⟨w6.heap.size, 0, none⟩) zs.length m] _
          rw [HLR.out]
          exact this
        · obtain rfl : r = ⟨kind, 0, some ⟨w6.heap.size, 0, none⟩, m, zs⟩ := by simpa using hr
          show Bs _ _ zs.length m zs
          rw [HLR.out]
          exact HB1.out
        · obtain rfl : r = ⟨kind, 0, some ⟨w6.heap.size, 0, none⟩, m, zs⟩ := by simpa using hr
          obtain ⟨off, h0, e⟩ := hx
          have h0 : 0 < zs.length := h0
          rw [HLR.out] at h0
          exact HB1.out.blt h0 e
        · obtain rfl : r = ⟨kind, 0, some ⟨w6.heap.size, 0, none⟩, m, zs⟩ := by simpa using hr
          show zs.length ≤ _
          rw [HLR.out]; omega
        rw [P1.out]
        rintro e w8 ⟨rfl, X8, h8, -⟩
        have H8 := Lib.hid h8
        have OK8 := Lib.hid V1.out.keep.ok
        simp only [] at H8
        clear h8 HA HB1 H6
        go_wp2_with fail
        refine (num22_any _ _).mono ?_
        rintro e w9 ⟨rfl, rfl⟩
        go_wp2_with fail
        refine (OPN1.out _ _ _ _ H8.out.lf).mono ?_
        rintro e wA ⟨XA, jbA, rfl, hA, -, kA⟩
        have HA := Lib.hid hA
        have HJ := Lib.hid (H8.out.later kA)
        clear hA kA H8
        go_wp2_with fail
        refine (ljall HA.out OK8.out).mono ?_
        rintro e wB ⟨AB, cB, rB, rfl, -, -, kB⟩
        have HJ2 := Lib.hid (HJ.out.later kB)
        clear HJ kB HA
        go_wp2_with fail
        refine (ljall HJ2.out OK8.out).mono ?_
        rintro e wC ⟨AC, cC, rC, rfl, -, -, kC⟩
        have HC := Lib.hid (HJ2.out.later kC)
        clear HJ2 kC
        go_wp2
        go_ret
        exact ⟨rfl, HC.out.keeps.below (fun _ _ h => h)⟩
    · have e1 : decide (2 ≤ kind) = false := decide_eq_false a1
      have hwb : wrB kind m = false := by unfold wrB; exact (decide_eq_false (by omega))
      rw [hwb] at P1
      clear hwb
      go_wp2_with fail
      have HB1 := Lib.hid (((madeB w6 m (by omega)).alloc (.cells #[.int .i64 kind, .int .i64 0, .slice (some ⟨w6.heap.size, 0, none⟩) m m] 32)).alloc (.cells #[.int .i64 kind, .int .i64 0, .slice (some ⟨w6.heap.size, 0, none⟩) m m, .int .i64 kind, .int .i64 0, .slice (some ⟨w6.heap.size, 0, none⟩) m m] 32))
      have HA := Lib.hid (((H6.out.alloc (.cells (Array.replicate m (Value.int .u8 0)) 5)).alloc (.cells #[.int .i64 kind, .int .i64 0, .slice (some ⟨w6.heap.size, 0, none⟩) m m] 32)).alloc (.cells #[.int .i64 kind, .int .i64 0, .slice (some ⟨w6.heap.size, 0, none⟩) m m, .int .i64 kind, .int .i64 0, .slice (some ⟨w6.heap.size, 0, none⟩) m m] 32))
      have HLR : Hid ((List.replicate m (0 : Int)).length = m) := List.length_replicate
      obtain ⟨zs, hzs⟩ : ∃ x, List.replicate m (0 : Int) = x := ⟨_, rfl⟩
      have hwl : wrL kind m = [(⟨kind, 0, some ⟨w6.heap.size, 0, none⟩, m, zs⟩ : RV), ⟨kind, 0, some ⟨w6.heap.size, 0, none⟩, m, zs⟩].map RV.r := by rw [← hzs]; rfl
      rw [hwl] at P1
      rw [hzs] at HB1 HLR
      clear hwl hzs
      refine (ljcompact HA.out V0.out (rs := [(⟨kind, 0, some ⟨w6.heap.size, 0, none⟩, m, zs⟩ : RV), ⟨kind, 0, some ⟨w6.heap.size, 0, none⟩, m, zs⟩]) (P := fun _ => True) (Rws.two (T := 32) _ _ ?_) ⟨fun r hr => ?_, fun r hr x hx => ⟨trivial, ?_⟩⟩ (by decide) (fun r hr => ?_)).mono ?_
      · have := Blk.newAt (X := (w6.alloc (.cells (Array.replicate m (Value.int .u8 0)) 5)).alloc (.cells #[.int .i64 kind, .int .i64 0, .slice (some ⟨w6.heap.size, 0, none⟩) m m] 32)) (b := w6.heap.size + 1 + 1) (by simp) [.int .i64 kind, .int .i64 0, .slice (some ⟨w6.heap.size, 0, none⟩) m m, .int .i64 kind, .int .i64 0, .slice (some ⟨w6.heap.size, 0, none⟩) m m] 32
        show Blk _ _ [.int .i64 kind, .int .i64 0, .slice (some ⟨w6.heap.size, 0, none⟩) zs.length m, .int .i64 kind, .int .i64 0, .slice (some ⟨w6.heap.size, 0, none⟩) zs.length m] _
        rw [HLR.out]
        exact this
      · obtain rfl : r = ⟨kind, 0, some ⟨w6.heap.size, 0, none⟩, m, zs⟩ := by simpa using hr
        show Bs _ _ zs.length m zs
        rw [HLR.out]
        exact HB1.out
      · obtain rfl : r = ⟨kind, 0, some ⟨w6.heap.size, 0, none⟩, m, zs⟩ := by simpa using hr
        obtain ⟨off, h0, e⟩ := hx
        have h0 : 0 < zs.length := h0
        rw [HLR.out] at h0
        exact HB1.out.blt h0 e
      · obtain rfl : r = ⟨kind, 0, some ⟨w6.heap.size, 0, none⟩, m, zs⟩ := by simpa using hr
        show zs.length ≤ _
        rw [HLR.out]; omega
      rw [P1.out]
      rintro e w8 ⟨rfl, X8, h8, -⟩
      have H8 := Lib.hid h8
      have OK8 := Lib.hid V1.out.keep.ok
      simp only [] at H8
      clear h8 HA HB1 H6
      go_wp2_with fail
      refine (num22_any _ _).mono ?_
      rintro e w9 ⟨rfl, rfl⟩
      go_wp2_with fail
      refine (OPN1.out _ _ _ _ H8.out.lf).mono ?_
      rintro e wA ⟨XA, jbA, rfl, hA, -, kA⟩
      have HA := Lib.hid hA
      have HJ := Lib.hid (H8.out.later kA)
      clear hA kA H8
      go_wp2_with fail
      refine (ljall HA.out OK8.out).mono ?_
      rintro e wB ⟨AB, cB, rB, rfl, -, -, kB⟩
      have HJ2 := Lib.hid (HJ.out.later kB)
      clear HJ kB HA
      go_wp2_with fail
      refine (ljall HJ2.out OK8.out).mono ?_
      rintro e wC ⟨AC, cC, rC, rfl, -, -, kC⟩
      have HC := Lib.hid (HJ2.out.later kC)
      clear HJ2 kC
      go_wp2
      go_ret
      exact ⟨rfl, HC.out.keeps.below (fun _ _ h => h)⟩
  · have n2 : (count != 2) = true := by simpa using c2
    have n2e : (count == 2) = false := by simpa using c2
    obtain ⟨p, c, xe, hof, hc, hc2⟩ : ∃ (p : Option Addr) (c : Nat) (xe : Int), ofF (some ⟨q, 0, none⟩) 0 count ((4 : Nat) : Int) 0 = .tuple #[.agg #[.pointer p, .int .i64 0, .int .i64 c], .int .i64 xe] ∧ c ≤ 1000000 ∧ c ≠ 2 := by
      cases hs : someB 0 count ((4 : Nat) : Int) with
      | true =>
        have hs' := of_decide_eq_true hs
        refine ⟨some ⟨q, 0, none⟩, count.toNat, 0, ?_, by omega, by omega⟩
        rw [ofF_yes hs, Int.zero_add, show ((count.toNat : Nat) : Int) = count by omega]
      | false => exact ⟨.none, 0, 1, ofF_no hs, by decide, by decide⟩
    rw [hof]
    have OPJ := Lib.hid (fun w' => jopen_no p 0 c hc hc2 w')
    clear hof hc hc2
    go_wp2_with fail
    refine (OPJ.out _).mono ?_
    rintro e w4 ⟨rfl, k4⟩
    have H4 := Lib.hid ((H3.out.alloc _).later k4)
    clear k4 OPJ H3
    go_wp2_with fail
    refine (num22_any _ _).mono ?_
    rintro e w5 ⟨rfl, rfl⟩
    go_wp2_with fail
    refine (OPN.out _ _ _ _ H4.out).mono ?_
    rintro e w6 ⟨X, jb, rfl, h6, -, -⟩
    have H6 := Lib.hid h6
    clear h6 H4
    go_wp2_with fail
    refine (jappend_nil _ _ _ _ _).mono ?_
    rintro e w7 ⟨rfl, rfl⟩
    go_wp2_with fail
    refine (num22_any _ _).mono ?_
    rintro e w7 ⟨rfl, rfl⟩
    go_wp2_with fail
    refine (jcompact_nil _ _ _ _).mono ?_
    rintro e w7 ⟨rfl, rfl⟩
    go_wp2_with fail
    refine (num22_any _ _).mono ?_
    rintro e w7 ⟨rfl, rfl⟩
    go_wp2_with fail
    refine (jepoch_nil _).mono ?_
    rintro e w7 ⟨rfl, rfl⟩
    go_wp2_with fail
    refine (jtorn_nil _).mono ?_
    rintro e w7 ⟨rfl, rfl⟩
    go_wp2_with fail
    refine (jroom_nil _).mono ?_
    rintro e w7 ⟨rfl, rfl⟩
    go_wp2_with fail
    refine (jall_nil _).mono ?_
    rintro e w7 ⟨rfl, rfl⟩
    have hm := HM.out
    have hmk := fun w => run_make_blk (P := Try.prog) 22 5 (.int .u8 0) 1 Try.underlying22 Try.info5 rfl .i64 .i64 (m : Int) (m : Int) m rfl rfl (by omega) (by omega) w
    by_cases a1 : 2 ≤ kind
    · have e1 : decide (2 ≤ kind) = true := decide_eq_true a1
      by_cases a2 : kind ≤ 250
      · have e2 : decide (kind ≤ 250) = true := decide_eq_true a2
        by_cases a3 : m ≤ 512
        · have e3 : decide ((m : Int) ≤ 512) = true := decide_eq_true (by omega)
          by_cases a4 : 2 * ((m + 7) / 8 * 8 + 16) ≤ 1008
          · have e4 : decide (2 * (((m : Int) + 7) / 8 * 8 + 16) ≤ 1008) = true := decide_eq_true (by omega)
            have hwb : wrB kind m = true := by unfold wrB; exact (decide_eq_true (by omega))
            rw [hwb] at P1
            clear hwb
            go_wp2_with fail
            have HB1 := Lib.hid (((madeB w6 m (by omega)).alloc (.cells #[.int .i64 kind, .int .i64 0, .slice (some ⟨w6.heap.size, 0, none⟩) m m] 32)).alloc (.cells #[.int .i64 kind, .int .i64 0, .slice (some ⟨w6.heap.size, 0, none⟩) m m, .int .i64 kind, .int .i64 0, .slice (some ⟨w6.heap.size, 0, none⟩) m m] 32))
            have HA := Lib.hid (((H6.out.alloc (.cells (Array.replicate m (Value.int .u8 0)) 5)).alloc (.cells #[.int .i64 kind, .int .i64 0, .slice (some ⟨w6.heap.size, 0, none⟩) m m] 32)).alloc (.cells #[.int .i64 kind, .int .i64 0, .slice (some ⟨w6.heap.size, 0, none⟩) m m, .int .i64 kind, .int .i64 0, .slice (some ⟨w6.heap.size, 0, none⟩) m m] 32))
            have HLR : Hid ((List.replicate m (0 : Int)).length = m) := List.length_replicate
            obtain ⟨zs, hzs⟩ : ∃ x, List.replicate m (0 : Int) = x := ⟨_, rfl⟩
            have hwl : wrL kind m = [(⟨kind, 0, some ⟨w6.heap.size, 0, none⟩, m, zs⟩ : RV), ⟨kind, 0, some ⟨w6.heap.size, 0, none⟩, m, zs⟩].map RV.r := by rw [← hzs]; rfl
            rw [hwl] at P1
            rw [hzs] at HB1 HLR
            clear hwl hzs
            refine (ljcompact HA.out V0.out (rs := [(⟨kind, 0, some ⟨w6.heap.size, 0, none⟩, m, zs⟩ : RV), ⟨kind, 0, some ⟨w6.heap.size, 0, none⟩, m, zs⟩]) (P := fun _ => True) (Rws.two (T := 32) _ _ ?_) ⟨fun r hr => ?_, fun r hr x hx => ⟨trivial, ?_⟩⟩ (by decide) (fun r hr => ?_)).mono ?_
            · have := Blk.newAt (X := (w6.alloc (.cells (Array.replicate m (Value.int .u8 0)) 5)).alloc (.cells #[.int .i64 kind, .int .i64 0, .slice (some ⟨w6.heap.size, 0, none⟩) m m] 32)) (b := w6.heap.size + 1 + 1) (by simp) [.int .i64 kind, .int .i64 0, .slice (some ⟨w6.heap.size, 0, none⟩) m m, .int .i64 kind, .int .i64 0, .slice (some ⟨w6.heap.size, 0, none⟩) m m] 32
              show Blk _ _ [.int .i64 kind, .int .i64 0, .slice (some ⟨w6.heap.size, 0, none⟩) zs.length m, .int .i64 kind, .int .i64 0, .slice (some ⟨w6.heap.size, 0, none⟩) zs.length m] _
              rw [HLR.out]
              exact this
            · obtain rfl : r = ⟨kind, 0, some ⟨w6.heap.size, 0, none⟩, m, zs⟩ := by simpa using hr
              show Bs _ _ zs.length m zs
              rw [HLR.out]
              exact HB1.out
            · obtain rfl : r = ⟨kind, 0, some ⟨w6.heap.size, 0, none⟩, m, zs⟩ := by simpa using hr
              obtain ⟨off, h0, e⟩ := hx
              have h0 : 0 < zs.length := h0
              rw [HLR.out] at h0
              exact HB1.out.blt h0 e
            · obtain rfl : r = ⟨kind, 0, some ⟨w6.heap.size, 0, none⟩, m, zs⟩ := by simpa using hr
              show zs.length ≤ _
              rw [HLR.out]; omega
            rw [P1.out]
            rintro e w8 ⟨rfl, X8, h8, -⟩
            have H8 := Lib.hid h8
            have OK8 := Lib.hid V1.out.keep.ok
            simp only [] at H8
            clear h8 HA HB1 H6
            go_wp2_with fail
            refine (num22_any _ _).mono ?_
            rintro e w9 ⟨rfl, rfl⟩
            go_wp2_with fail
            refine (OPN1.out _ _ _ _ H8.out.lf).mono ?_
            rintro e wA ⟨XA, jbA, rfl, hA, -, kA⟩
            have HA := Lib.hid hA
            have HJ := Lib.hid (H8.out.later kA)
            clear hA kA H8
            go_wp2_with fail
            refine (ljall HA.out OK8.out).mono ?_
            rintro e wB ⟨AB, cB, rB, rfl, -, -, kB⟩
            have HJ2 := Lib.hid (HJ.out.later kB)
            clear HJ kB HA
            go_wp2_with fail
            refine (ljall HJ2.out OK8.out).mono ?_
            rintro e wC ⟨AC, cC, rC, rfl, -, -, kC⟩
            have HC := Lib.hid (HJ2.out.later kC)
            clear HJ2 kC
            go_wp2
            go_ret
            exact ⟨rfl, HC.out.keeps.below (fun _ _ h => h)⟩
          · have e4 : decide (2 * (((m : Int) + 7) / 8 * 8 + 16) ≤ 1008) = false := decide_eq_false (by omega)
            have hwb : wrB kind m = false := by unfold wrB; exact (decide_eq_false (by omega))
            rw [hwb] at P1
            clear hwb
            go_wp2_with fail
            have HB1 := Lib.hid (((madeB w6 m (by omega)).alloc (.cells #[.int .i64 kind, .int .i64 0, .slice (some ⟨w6.heap.size, 0, none⟩) m m] 32)).alloc (.cells #[.int .i64 kind, .int .i64 0, .slice (some ⟨w6.heap.size, 0, none⟩) m m, .int .i64 kind, .int .i64 0, .slice (some ⟨w6.heap.size, 0, none⟩) m m] 32))
            have HA := Lib.hid (((H6.out.alloc (.cells (Array.replicate m (Value.int .u8 0)) 5)).alloc (.cells #[.int .i64 kind, .int .i64 0, .slice (some ⟨w6.heap.size, 0, none⟩) m m] 32)).alloc (.cells #[.int .i64 kind, .int .i64 0, .slice (some ⟨w6.heap.size, 0, none⟩) m m, .int .i64 kind, .int .i64 0, .slice (some ⟨w6.heap.size, 0, none⟩) m m] 32))
            have HLR : Hid ((List.replicate m (0 : Int)).length = m) := List.length_replicate
            obtain ⟨zs, hzs⟩ : ∃ x, List.replicate m (0 : Int) = x := ⟨_, rfl⟩
            have hwl : wrL kind m = [(⟨kind, 0, some ⟨w6.heap.size, 0, none⟩, m, zs⟩ : RV), ⟨kind, 0, some ⟨w6.heap.size, 0, none⟩, m, zs⟩].map RV.r := by rw [← hzs]; rfl
            rw [hwl] at P1
            rw [hzs] at HB1 HLR
            clear hwl hzs
            refine (ljcompact HA.out V0.out (rs := [(⟨kind, 0, some ⟨w6.heap.size, 0, none⟩, m, zs⟩ : RV), ⟨kind, 0, some ⟨w6.heap.size, 0, none⟩, m, zs⟩]) (P := fun _ => True) (Rws.two (T := 32) _ _ ?_) ⟨fun r hr => ?_, fun r hr x hx => ⟨trivial, ?_⟩⟩ (by decide) (fun r hr => ?_)).mono ?_
            · have := Blk.newAt (X := (w6.alloc (.cells (Array.replicate m (Value.int .u8 0)) 5)).alloc (.cells #[.int .i64 kind, .int .i64 0, .slice (some ⟨w6.heap.size, 0, none⟩) m m] 32)) (b := w6.heap.size + 1 + 1) (by simp) [.int .i64 kind, .int .i64 0, .slice (some ⟨w6.heap.size, 0, none⟩) m m, .int .i64 kind, .int .i64 0, .slice (some ⟨w6.heap.size, 0, none⟩) m m] 32
              show Blk _ _ [.int .i64 kind, .int .i64 0, .slice (some ⟨w6.heap.size, 0, none⟩) zs.length m, .int .i64 kind, .int .i64 0, .slice (some ⟨w6.heap.size, 0, none⟩) zs.length m] _
              rw [HLR.out]
              exact this
            · obtain rfl : r = ⟨kind, 0, some ⟨w6.heap.size, 0, none⟩, m, zs⟩ := by simpa using hr
              show Bs _ _ zs.length m zs
              rw [HLR.out]
              exact HB1.out
            · obtain rfl : r = ⟨kind, 0, some ⟨w6.heap.size, 0, none⟩, m, zs⟩ := by simpa using hr
              obtain ⟨off, h0, e⟩ := hx
              have h0 : 0 < zs.length := h0
              rw [HLR.out] at h0
              exact HB1.out.blt h0 e
            · obtain rfl : r = ⟨kind, 0, some ⟨w6.heap.size, 0, none⟩, m, zs⟩ := by simpa using hr
              show zs.length ≤ _
              rw [HLR.out]; omega
            rw [P1.out]
            rintro e w8 ⟨rfl, X8, h8, -⟩
            have H8 := Lib.hid h8
            have OK8 := Lib.hid V1.out.keep.ok
            simp only [] at H8
            clear h8 HA HB1 H6
            go_wp2_with fail
            refine (num22_any _ _).mono ?_
            rintro e w9 ⟨rfl, rfl⟩
            go_wp2_with fail
            refine (OPN1.out _ _ _ _ H8.out.lf).mono ?_
            rintro e wA ⟨XA, jbA, rfl, hA, -, kA⟩
            have HA := Lib.hid hA
            have HJ := Lib.hid (H8.out.later kA)
            clear hA kA H8
            go_wp2_with fail
            refine (ljall HA.out OK8.out).mono ?_
            rintro e wB ⟨AB, cB, rB, rfl, -, -, kB⟩
            have HJ2 := Lib.hid (HJ.out.later kB)
            clear HJ kB HA
            go_wp2_with fail
            refine (ljall HJ2.out OK8.out).mono ?_
            rintro e wC ⟨AC, cC, rC, rfl, -, -, kC⟩
            have HC := Lib.hid (HJ2.out.later kC)
            clear HJ2 kC
            go_wp2
            go_ret
            exact ⟨rfl, HC.out.keeps.below (fun _ _ h => h)⟩
        · have e3 : decide ((m : Int) ≤ 512) = false := decide_eq_false (by omega)
          have hwb : wrB kind m = false := by unfold wrB; exact (decide_eq_false (by omega))
          rw [hwb] at P1
          clear hwb
          go_wp2_with fail
          have HB1 := Lib.hid (((madeB w6 m (by omega)).alloc (.cells #[.int .i64 kind, .int .i64 0, .slice (some ⟨w6.heap.size, 0, none⟩) m m] 32)).alloc (.cells #[.int .i64 kind, .int .i64 0, .slice (some ⟨w6.heap.size, 0, none⟩) m m, .int .i64 kind, .int .i64 0, .slice (some ⟨w6.heap.size, 0, none⟩) m m] 32))
          have HA := Lib.hid (((H6.out.alloc (.cells (Array.replicate m (Value.int .u8 0)) 5)).alloc (.cells #[.int .i64 kind, .int .i64 0, .slice (some ⟨w6.heap.size, 0, none⟩) m m] 32)).alloc (.cells #[.int .i64 kind, .int .i64 0, .slice (some ⟨w6.heap.size, 0, none⟩) m m, .int .i64 kind, .int .i64 0, .slice (some ⟨w6.heap.size, 0, none⟩) m m] 32))
          have HLR : Hid ((List.replicate m (0 : Int)).length = m) := List.length_replicate
          obtain ⟨zs, hzs⟩ : ∃ x, List.replicate m (0 : Int) = x := ⟨_, rfl⟩
          have hwl : wrL kind m = [(⟨kind, 0, some ⟨w6.heap.size, 0, none⟩, m, zs⟩ : RV), ⟨kind, 0, some ⟨w6.heap.size, 0, none⟩, m, zs⟩].map RV.r := by rw [← hzs]; rfl
          rw [hwl] at P1
          rw [hzs] at HB1 HLR
          clear hwl hzs
          refine (ljcompact HA.out V0.out (rs := [(⟨kind, 0, some ⟨w6.heap.size, 0, none⟩, m, zs⟩ : RV), ⟨kind, 0, some ⟨w6.heap.size, 0, none⟩, m, zs⟩]) (P := fun _ => True) (Rws.two (T := 32) _ _ ?_) ⟨fun r hr => ?_, fun r hr x hx => ⟨trivial, ?_⟩⟩ (by decide) (fun r hr => ?_)).mono ?_
          · have := Blk.newAt (X := (w6.alloc (.cells (Array.replicate m (Value.int .u8 0)) 5)).alloc (.cells #[.int .i64 kind, .int .i64 0, .slice (some ⟨w6.heap.size, 0, none⟩) m m] 32)) (b := w6.heap.size + 1 + 1) (by simp) [.int .i64 kind, .int .i64 0, .slice (some ⟨w6.heap.size, 0, none⟩) m m, .int .i64 kind, .int .i64 0, .slice (some ⟨w6.heap.size, 0, none⟩) m m] 32
            show Blk _ _ [.int .i64 kind, .int .i64 0, .slice (some ⟨w6.heap.size, 0, none⟩) zs.length m, .int .i64 kind, .int .i64 0, .slice (some ⟨w6.heap.size, 0, none⟩) zs.length m] _
            rw [HLR.out]
            exact this
          · obtain rfl : r = ⟨kind, 0, some ⟨w6.heap.size, 0, none⟩, m, zs⟩ := by simpa using hr
            show Bs _ _ zs.length m zs
            rw [HLR.out]
            exact HB1.out
          · obtain rfl : r = ⟨kind, 0, some ⟨w6.heap.size, 0, none⟩, m, zs⟩ := by simpa using hr
            obtain ⟨off, h0, e⟩ := hx
            have h0 : 0 < zs.length := h0
            rw [HLR.out] at h0
            exact HB1.out.blt h0 e
          · obtain rfl : r = ⟨kind, 0, some ⟨w6.heap.size, 0, none⟩, m, zs⟩ := by simpa using hr
            show zs.length ≤ _
            rw [HLR.out]; omega
          rw [P1.out]
          rintro e w8 ⟨rfl, X8, h8, -⟩
          have H8 := Lib.hid h8
          have OK8 := Lib.hid V1.out.keep.ok
          simp only [] at H8
          clear h8 HA HB1 H6
          go_wp2_with fail
          refine (num22_any _ _).mono ?_
          rintro e w9 ⟨rfl, rfl⟩
          go_wp2_with fail
          refine (OPN1.out _ _ _ _ H8.out.lf).mono ?_
          rintro e wA ⟨XA, jbA, rfl, hA, -, kA⟩
          have HA := Lib.hid hA
          have HJ := Lib.hid (H8.out.later kA)
          clear hA kA H8
          go_wp2_with fail
          refine (ljall HA.out OK8.out).mono ?_
          rintro e wB ⟨AB, cB, rB, rfl, -, -, kB⟩
          have HJ2 := Lib.hid (HJ.out.later kB)
          clear HJ kB HA
          go_wp2_with fail
          refine (ljall HJ2.out OK8.out).mono ?_
          rintro e wC ⟨AC, cC, rC, rfl, -, -, kC⟩
          have HC := Lib.hid (HJ2.out.later kC)
          clear HJ2 kC
          go_wp2
          go_ret
          exact ⟨rfl, HC.out.keeps.below (fun _ _ h => h)⟩
      · have e2 : decide (kind ≤ 250) = false := decide_eq_false a2
        have hwb : wrB kind m = false := by unfold wrB; exact (decide_eq_false (by omega))
        rw [hwb] at P1
        clear hwb
        go_wp2_with fail
        have HB1 := Lib.hid (((madeB w6 m (by omega)).alloc (.cells #[.int .i64 kind, .int .i64 0, .slice (some ⟨w6.heap.size, 0, none⟩) m m] 32)).alloc (.cells #[.int .i64 kind, .int .i64 0, .slice (some ⟨w6.heap.size, 0, none⟩) m m, .int .i64 kind, .int .i64 0, .slice (some ⟨w6.heap.size, 0, none⟩) m m] 32))
        have HA := Lib.hid (((H6.out.alloc (.cells (Array.replicate m (Value.int .u8 0)) 5)).alloc (.cells #[.int .i64 kind, .int .i64 0, .slice (some ⟨w6.heap.size, 0, none⟩) m m] 32)).alloc (.cells #[.int .i64 kind, .int .i64 0, .slice (some ⟨w6.heap.size, 0, none⟩) m m, .int .i64 kind, .int .i64 0, .slice (some ⟨w6.heap.size, 0, none⟩) m m] 32))
        have HLR : Hid ((List.replicate m (0 : Int)).length = m) := List.length_replicate
        obtain ⟨zs, hzs⟩ : ∃ x, List.replicate m (0 : Int) = x := ⟨_, rfl⟩
        have hwl : wrL kind m = [(⟨kind, 0, some ⟨w6.heap.size, 0, none⟩, m, zs⟩ : RV), ⟨kind, 0, some ⟨w6.heap.size, 0, none⟩, m, zs⟩].map RV.r := by rw [← hzs]; rfl
        rw [hwl] at P1
        rw [hzs] at HB1 HLR
        clear hwl hzs
        refine (ljcompact HA.out V0.out (rs := [(⟨kind, 0, some ⟨w6.heap.size, 0, none⟩, m, zs⟩ : RV), ⟨kind, 0, some ⟨w6.heap.size, 0, none⟩, m, zs⟩]) (P := fun _ => True) (Rws.two (T := 32) _ _ ?_) ⟨fun r hr => ?_, fun r hr x hx => ⟨trivial, ?_⟩⟩ (by decide) (fun r hr => ?_)).mono ?_
        · have := Blk.newAt (X := (w6.alloc (.cells (Array.replicate m (Value.int .u8 0)) 5)).alloc (.cells #[.int .i64 kind, .int .i64 0, .slice (some ⟨w6.heap.size, 0, none⟩) m m] 32)) (b := w6.heap.size + 1 + 1) (by simp) [.int .i64 kind, .int .i64 0, .slice (some ⟨w6.heap.size, 0, none⟩) m m, .int .i64 kind, .int .i64 0, .slice (some ⟨w6.heap.size, 0, none⟩) m m] 32
          show Blk _ _ [.int .i64 kind, .int .i64 0, .slice (some ⟨w6.heap.size, 0, none⟩) zs.length m, .int .i64 kind, .int .i64 0, .slice (some ⟨w6.heap.size, 0, none⟩) zs.length m] _
          rw [HLR.out]
          exact this
        · obtain rfl : r = ⟨kind, 0, some ⟨w6.heap.size, 0, none⟩, m, zs⟩ := by simpa using hr
          show Bs _ _ zs.length m zs
          rw [HLR.out]
          exact HB1.out
        · obtain rfl : r = ⟨kind, 0, some ⟨w6.heap.size, 0, none⟩, m, zs⟩ := by simpa using hr
          obtain ⟨off, h0, e⟩ := hx
          have h0 : 0 < zs.length := h0
          rw [HLR.out] at h0
          exact HB1.out.blt h0 e
        · obtain rfl : r = ⟨kind, 0, some ⟨w6.heap.size, 0, none⟩, m, zs⟩ := by simpa using hr
          show zs.length ≤ _
          rw [HLR.out]; omega
        rw [P1.out]
        rintro e w8 ⟨rfl, X8, h8, -⟩
        have H8 := Lib.hid h8
        have OK8 := Lib.hid V1.out.keep.ok
        simp only [] at H8
        clear h8 HA HB1 H6
        go_wp2_with fail
        refine (num22_any _ _).mono ?_
        rintro e w9 ⟨rfl, rfl⟩
        go_wp2_with fail
        refine (OPN1.out _ _ _ _ H8.out.lf).mono ?_
        rintro e wA ⟨XA, jbA, rfl, hA, -, kA⟩
        have HA := Lib.hid hA
        have HJ := Lib.hid (H8.out.later kA)
        clear hA kA H8
        go_wp2_with fail
        refine (ljall HA.out OK8.out).mono ?_
        rintro e wB ⟨AB, cB, rB, rfl, -, -, kB⟩
        have HJ2 := Lib.hid (HJ.out.later kB)
        clear HJ kB HA
        go_wp2_with fail
        refine (ljall HJ2.out OK8.out).mono ?_
        rintro e wC ⟨AC, cC, rC, rfl, -, -, kC⟩
        have HC := Lib.hid (HJ2.out.later kC)
        clear HJ2 kC
        go_wp2
        go_ret
        exact ⟨rfl, HC.out.keeps.below (fun _ _ h => h)⟩
    · have e1 : decide (2 ≤ kind) = false := decide_eq_false a1
      have hwb : wrB kind m = false := by unfold wrB; exact (decide_eq_false (by omega))
      rw [hwb] at P1
      clear hwb
      go_wp2_with fail
      have HB1 := Lib.hid (((madeB w6 m (by omega)).alloc (.cells #[.int .i64 kind, .int .i64 0, .slice (some ⟨w6.heap.size, 0, none⟩) m m] 32)).alloc (.cells #[.int .i64 kind, .int .i64 0, .slice (some ⟨w6.heap.size, 0, none⟩) m m, .int .i64 kind, .int .i64 0, .slice (some ⟨w6.heap.size, 0, none⟩) m m] 32))
      have HA := Lib.hid (((H6.out.alloc (.cells (Array.replicate m (Value.int .u8 0)) 5)).alloc (.cells #[.int .i64 kind, .int .i64 0, .slice (some ⟨w6.heap.size, 0, none⟩) m m] 32)).alloc (.cells #[.int .i64 kind, .int .i64 0, .slice (some ⟨w6.heap.size, 0, none⟩) m m, .int .i64 kind, .int .i64 0, .slice (some ⟨w6.heap.size, 0, none⟩) m m] 32))
      have HLR : Hid ((List.replicate m (0 : Int)).length = m) := List.length_replicate
      obtain ⟨zs, hzs⟩ : ∃ x, List.replicate m (0 : Int) = x := ⟨_, rfl⟩
      have hwl : wrL kind m = [(⟨kind, 0, some ⟨w6.heap.size, 0, none⟩, m, zs⟩ : RV), ⟨kind, 0, some ⟨w6.heap.size, 0, none⟩, m, zs⟩].map RV.r := by rw [← hzs]; rfl
      rw [hwl] at P1
      rw [hzs] at HB1 HLR
      clear hwl hzs
      refine (ljcompact HA.out V0.out (rs := [(⟨kind, 0, some ⟨w6.heap.size, 0, none⟩, m, zs⟩ : RV), ⟨kind, 0, some ⟨w6.heap.size, 0, none⟩, m, zs⟩]) (P := fun _ => True) (Rws.two (T := 32) _ _ ?_) ⟨fun r hr => ?_, fun r hr x hx => ⟨trivial, ?_⟩⟩ (by decide) (fun r hr => ?_)).mono ?_
      · have := Blk.newAt (X := (w6.alloc (.cells (Array.replicate m (Value.int .u8 0)) 5)).alloc (.cells #[.int .i64 kind, .int .i64 0, .slice (some ⟨w6.heap.size, 0, none⟩) m m] 32)) (b := w6.heap.size + 1 + 1) (by simp) [.int .i64 kind, .int .i64 0, .slice (some ⟨w6.heap.size, 0, none⟩) m m, .int .i64 kind, .int .i64 0, .slice (some ⟨w6.heap.size, 0, none⟩) m m] 32
        show Blk _ _ [.int .i64 kind, .int .i64 0, .slice (some ⟨w6.heap.size, 0, none⟩) zs.length m, .int .i64 kind, .int .i64 0, .slice (some ⟨w6.heap.size, 0, none⟩) zs.length m] _
        rw [HLR.out]
        exact this
      · obtain rfl : r = ⟨kind, 0, some ⟨w6.heap.size, 0, none⟩, m, zs⟩ := by simpa using hr
        show Bs _ _ zs.length m zs
        rw [HLR.out]
        exact HB1.out
      · obtain rfl : r = ⟨kind, 0, some ⟨w6.heap.size, 0, none⟩, m, zs⟩ := by simpa using hr
        obtain ⟨off, h0, e⟩ := hx
        have h0 : 0 < zs.length := h0
        rw [HLR.out] at h0
        exact HB1.out.blt h0 e
      · obtain rfl : r = ⟨kind, 0, some ⟨w6.heap.size, 0, none⟩, m, zs⟩ := by simpa using hr
        show zs.length ≤ _
        rw [HLR.out]; omega
      rw [P1.out]
      rintro e w8 ⟨rfl, X8, h8, -⟩
      have H8 := Lib.hid h8
      have OK8 := Lib.hid V1.out.keep.ok
      simp only [] at H8
      clear h8 HA HB1 H6
      go_wp2_with fail
      refine (num22_any _ _).mono ?_
      rintro e w9 ⟨rfl, rfl⟩
      go_wp2_with fail
      refine (OPN1.out _ _ _ _ H8.out.lf).mono ?_
      rintro e wA ⟨XA, jbA, rfl, hA, -, kA⟩
      have HA := Lib.hid hA
      have HJ := Lib.hid (H8.out.later kA)
      clear hA kA H8
      go_wp2_with fail
      refine (ljall HA.out OK8.out).mono ?_
      rintro e wB ⟨AB, cB, rB, rfl, -, -, kB⟩
      have HJ2 := Lib.hid (HJ.out.later kB)
      clear HJ kB HA
      go_wp2_with fail
      refine (ljall HJ2.out OK8.out).mono ?_
      rintro e wC ⟨AC, cC, rC, rfl, -, -, kC⟩
      have HC := Lib.hid (HJ2.out.later kC)
      clear HJ2 kC
      go_wp2
      go_ret
      exact ⟨rfl, HC.out.keeps.below (fun _ _ h => h)⟩
set_option maxRecDepth 100000 in
theorem JournalWrong_lifted (os : Os) (started : os.Started) (H : Type) (enc : TypeId × Value → H) :
    ReturnsInHanded {} Try.checked os 6 .any (Rows.journalWrongSpec.pre6 enc Try.prog Try.f6 Rows.journalWrongRow.domain false) (Rows.journalWrongSpec.post enc Try.prog Try.f6 false true false false) := by
  refine returnsInHanded_of_change (C := Try.checked) Try.own started (by kernel_rfl) Try.func6
    (ChangeSpec.witness6 (enc := enc) (C := Try.checked) false ⟨#[], #[.int .i64 0, .int .i64 0, .int .i64 0], []⟩ 8 (by kernel_rfl) (by kernel_rfl) (by kernel_rfl) (by kernel_rfl)) ?_
  intro W base args ds gs before hval0 hW hcnd _
  have hval : ∀ (j : Nat) t v, Try.f6.params[j]? = some t → args[j]? = some v → Value.okWide Try.prog W .any base t v := hval0
  have hW' := hW
  obtain ⟨p, q, hA0, hV, rfl, hfz, hnd⟩ := hW
  have hA : DataW.TrodAll enc Try.prog W 0 (fun _ => true) true Try.f6.params.toList args.toList ds p := hA0
  rw [Try.params6] at hA hval
  obtain ⟨v0, vs0, d0, ds0, p0, q0, hargs, rfl, rfl, h0, r0⟩ := trodAll_cons hA
  obtain ⟨v1, vs1, d1, ds1, p1, q1, rfl, rfl, rfl, h1, r1⟩ := trodAll_cons r0
  obtain ⟨v2, vs2, d2, ds2, p2, q2, rfl, rfl, rfl, h2, r2⟩ := trodAll_cons r1
  obtain ⟨rfl, rfl, rfl⟩ := trodAll_nil r2
  obtain rfl : args = #[v0, v1, v2] := by cases args; simp_all
  obtain ⟨rfl, rfl⟩ := trodVars_none hV
  have k0 := h0
  have lt0 : ∀ x ∈ p0, x.block < W.heap.size := by obtain ⟨m, hm⟩ := k0; exact DataW.trod_lt m _ _ _ hm
  obtain ⟨a0, rfl, rfl, rfl, w0⟩ := open_int Try.underlying3 (hval 0 3 v0 rfl rfl) h0
  have k1 := h1
  have lt1 : ∀ x ∈ p1, x.block < W.heap.size := by obtain ⟨m, hm⟩ := k1; exact DataW.trod_lt m _ _ _ hm
  obtain ⟨a1, rfl, rfl, rfl, w1⟩ := open_int Try.underlying3 (hval 1 3 v1 rfl rfl) h1
  have k2 := h2
  have lt2 : ∀ x ∈ p2, x.block < W.heap.size := by obtain ⟨m, hm⟩ := k2; exact DataW.trod_lt m _ _ _ hm
  obtain ⟨a2, rfl, rfl, rfl, w2⟩ := open_int Try.underlying3 (hval 2 3 v2 rfl rfl) h2
  clear hA0 hval0
  refine (wrong_any a0 a1 a2 W).mono fun e W' ⟨he, bel⟩ => ?_
  subst he
  exact ⟨_, rfl, _, _, _, [], _, [], hW', trodAll_mk1 (shut_bool Try.underlying4 _), (trodAll_cons_mk (Below.trod Try.laidOut (by kernel_rfl) (of_decide_eq_true (by kernel_rfl)) k0 bel lt0) (trodAll_cons_mk (Below.trod Try.laidOut (by kernel_rfl) (of_decide_eq_true (by kernel_rfl)) k1 bel lt1) (trodAll_cons_mk (Below.trod Try.laidOut (by kernel_rfl) (of_decide_eq_true (by kernel_rfl)) k2 bel lt2) trodAll_mk0))), rfl, bel.frame _, fun h => by cases h⟩

set_option maxRecDepth 100000 in
theorem JournalWrong_closed : joinedFacts Try.checked.prog 6 Try.f6 Rows.journalWrongSpec Rows.journalWrongRow = true := by
  unfold joinedFacts
  rw [closed_laid, closed_maps, closed_heard, closed_plain, closed_mayEnter, closed_lifts, closed_make]
  kernel_rfl

theorem JournalWrong_holds : Rows.JournalWrongSaid :=
  OpenClaim.holds_of_wide 6 Try.f6 rfl rfl rfl rfl rfl rfl rfl ⟨rfl, rfl, rfl, rfl, rfl⟩ rfl rfl rfl rfl rfl (by kernel_rfl) Try.func6 JournalWrong_closed
    (of_decide_eq_true (by kernel_rfl)) (by unfold Func.isWrapper; first | (rw [if_pos (by decide +kernel)]; kernel_rfl) | (rw [if_neg (by decide +kernel)]; exact ⟨rfl, rfl⟩))
    (fun os started H enc _ => JournalWrong_lifted os started H enc)
#print axioms JournalWrong_holds
end Go.Proofs.Ytbefbojeojokjaa
