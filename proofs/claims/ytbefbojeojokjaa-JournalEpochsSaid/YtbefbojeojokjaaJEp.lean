
/- JournalEpochs: the two sectors are erased in turn. -/
import Derived.Test.YtbefbojeojokjaaJEpXJl3
import Derived.Test.YtbefbojeojokjaaJEpXFrame
import Derived.Test.YtbefbojeojokjaaJEpXInit
namespace Go.Proofs.Ytbefbojeojokjaa
open Go.RowKit Go.ChangeShapes Go.WideShapes Go.Deep

def epC (i : Nat) : Int := if i = 0 then -1 else (((i - 1) % 2 : Nat) : Int)
def epL (i : Nat) (b : List Int) : List Rec := if i = 0 then [] else [⟨5, 1, b⟩]
def epT (i : Nat) (b : List Int) : List Int := if i = 0 then [] else blk (1008 - (pkL [⟨5, 1, b⟩]).length)
def epJ (i : Nat) (b : List Int) : JS := keptJ i (epC i) (epL i b) (epT i b)
def erA (i : Nat) : Int := if i < 3 then 0 else (((i - 1) / 2 : Nat) : Int)
def erB (i : Nat) : Int := if i < 4 then 0 else (((i - 2) / 2 : Nat) : Int)
structure EpI (s : FS) (i : Nat) (b : List Int) : Prop where
  live : Live s 2 i (epC i) (epL i b) (epT i b) (100 - i)
  er : s.er = [erA i, erB i]
  b0 : i = 0 → blankB (secB s.b 1) = true
  b1 : blankB (secB s.b (i % 2)) = decide (i ≤ 1)
theorem nextZ_epC (i : Nat) : nextZ (epC i) = ((i % 2 : Nat) : Int) := by
  unfold nextZ epC
  by_cases h : i = 0
  · subst h; rfl
  · rw [if_neg h]
    split <;> omega
theorem EpI.new (b : List Int) : EpI (newF ((2 : Nat) : Int)) 0 b := by
  refine ⟨Live.new 2 (by decide) (by decide), rfl, fun _ => ?_, ?_⟩
  · rw [newF_secB 2 1 (by decide) (by decide)]; exact blank_rep _
  · show blankB (secB (newF ((2 : Nat) : Int)).b 0) = true
    rw [newF_secB 2 0 (by decide) (by decide)]; exact blank_rep _
/-- A sector that counts is not blank. -/
theorem SecH.notBlank {zs : List Int} {e : Nat} {l : List Rec} {T : List Int} (h : SecH zs e l T) : blankB zs = false := by
  cases hb : blankB zs with
  | false => rfl
  | true =>
    have h1 := blankB_eq hb
    rw [h.len] at h1
    have h2 := h.t16
    rw [h1, rep_take _ _ (by decide)] at h2
    have h3 := congrArg (fun z : List Int => z.getD 0 0) h2
    simp only [epoB_eq h.e2] at h3
    exact absurd h3 (by simp [List.getD])
theorem EpI.step {s : FS} {i : Nat} {b : List Int} (h : EpI s i b) (hi : i ≤ 11) (hb : Byt b) (hl : b.length ≤ 200) : ∃ s', cmpF s (epJ i b) [⟨5, 0, b⟩] = (s', epJ (i + 1) b, 0) ∧ EpI s' (i + 1) b := by
  have hv : Live s 2 i (epC i) (epL i b) (epT i b) (100 - (i + 1) + 1) := h.live.less (by omega)
  have eC : nextZ (epC i) = epC (i + 1) := by rw [nextZ_epC]; unfold epC; rw [if_neg (by omega), Nat.add_sub_cancel]
  have eN : (epC (i + 1)).toNat = i % 2 := by rw [← eC, nextZ_epC]; exact Int.toNat_natCast _
  have eL : numR 0 [⟨5, 0, b⟩] = epL (i + 1) b := by unfold epL; rw [if_neg (by omega)]; rfl
  have eT : blk (1008 - (pkL (epL (i + 1) b)).length) = epT (i + 1) b := by unfold epT epL; rw [if_neg (by omega), if_neg (by omega)]
  rcases hv.cmp (by omega) [⟨5, 0, b⟩] (fun r hr => by rw [List.mem_singleton.1 hr]; exact hb) with ⟨h0, -⟩ | ⟨s', -, -, -, h1, h2, h3, h4⟩
  · have hf : fitsR 5 1 b.length := ⟨by decide, by decide, by decide, by decide, by omega⟩
    have h5 := putL_len 5 1 b hf
    have h6 : sizeZ b.length = 16 + ((b.length : Int) + 7) / 8 * 8 := if_neg (by omega)
    have h7 := putL_le 5 1 b
    exfalso
    revert h0
    show (if (5 : Int) = 1 ∨ (putL 5 1 b).length = 0 ∨ 1008 < 0 + (putL 5 1 b).length then none else some ([] ++ putL 5 1 b)) = none → False
    rw [if_neg (by omega)]
    intro h; cases h
  · rw [eC, eL, eT] at h1 h2
    rw [eC, eN] at h3 h4
    refine ⟨s', h1, ⟨h2, ?_, (fun h => by omega), ?_⟩⟩
    · rw [h3, h.b1, h.er]
      unfold erA erB
      by_cases q : i ≤ 1
      · rw [if_pos (by simpa using q), if_pos (by omega), if_pos (by omega), if_pos (by omega), if_pos (by omega)]
      · rw [if_neg (by simpa using q)]
        rcases Nat.mod_two_eq_zero_or_one i with e | e
        · rw [e, show ∀ x y : Int, [x, y].set 0 ([x, y].getD 0 0 + 1) = [x + 1, y] from fun _ _ => rfl]
          congr 1
          · split <;> split <;> omega
          · congr 1
            split <;> split <;> omega
        · rw [e, show ∀ x y : Int, [x, y].set 1 ([x, y].getD 1 0 + 1) = [x, y + 1] from fun _ _ => rfl]
          congr 1
          · split <;> split <;> omega
          · congr 1
            split <;> split <;> omega
    · rw [h4 ((i + 1) % 2) (by omega) (by omega)]
      by_cases q : i = 0
      · subst q
        exact h.b0 rfl
      · rw [show decide (i + 1 ≤ 1) = false from decide_eq_false (by omega)]
        rcases h.live.keep with ⟨e, -⟩ | ⟨t, ht, hc, hs, -⟩
        · exact absurd e q
        · have : t = (i + 1) % 2 := by unfold epC at hc; rw [if_neg q] at hc; omega
          rw [← this]
          exact hs.notBlank
theorem epJ_facts {s : FS} {i : Nat} {b : List Int} (h : EpI s i b) : (epJ i b).epoch = i ∧ JOk (epJ i b) ∧ (1 ≤ i → (epJ i b).l.length = 1) := by
  refine ⟨?_, h.live.keep.ok, fun hi => ?_⟩
  · unfold epJ keptJ; split <;> rfl
  · unfold epJ epL epC
    rw [keptJ_ge (by rw [if_neg (by omega)]; omega), if_neg (by omega)]
    rfl
set_option maxRecDepth 100000 in
set_option maxHeartbeats 3200000 in
theorem epochs_any (n : Int) (A : Option Addr) (m cap : Nat) (b : List Int) (W : World) (h : Bs W A m cap b) : Calls Try.prog 3 #[.int .i64 n, .slice A m cap] W fun e W' => e = .returned (.bool true) ∧ Below W.heap.size W W' := by
  have m1 := h.le
  have m2 := h.max
  have HB := Lib.hid h
  have HL := Lib.hid h.len
  have AL := Lib.hid (alive22_any W)
  have I0 := Lib.hid (EpI.new b)
  have NW := Lib.hid (fun w (hk : Keeps None W w) => lnew hk ((2 : Nat) : Int))
  have OPN := Lib.hid (fun (s : FS) (i : Nat) (hi : EpI s i b) (w : World) B q L (h : LF W w B q L s) => (hi.live.opened h : Calls _ _ _ _ (LJOpen W w B q L s (epJ i b))))
  generalize newF ((2 : Nat) : Int) = f0 at *
  clear h
  go_enter Try.func3, Try.ntmps3
  go_wp2_with fail
  refine AL.out.mono ?_
  rintro e w1 ⟨rfl, k1⟩
  go_wp2_with fail
  refine (NW.out _ k1).mono ?_
  rintro e w2 ⟨q, L, rfl, hF⟩
  have HF := Lib.hid hF
  clear hF NW k1 AL
  go_wp2_with fail
  refine (OPN.out _ _ I0.out _ _ _ _ HF.out).mono ?_
  rintro e w3 ⟨X, jb, rfl, h3, -, -⟩
  have H3 := Lib.hid h3
  clear h3 HF
  by_cases g1 : n < 0
  · have d1 : decide (n < 0) = true := decide_eq_true g1
    go_wp2
    go_ret
    exact ⟨rfl, H3.out.keeps.below (fun _ _ h => h)⟩
  have d1 : decide (n < 0) = false := decide_eq_false g1
  by_cases g2 : 12 < n
  · have d2 : decide (12 < n) = true := decide_eq_true g2
    go_wp2
    go_ret
    exact ⟨rfl, H3.out.keeps.below (fun _ _ h => h)⟩
  have d2 : decide (12 < n) = false := decide_eq_false g2
  by_cases g3 : 200 < m
  · have d3 : decide (200 < (m : Int)) = true := decide_eq_true (by omega)
    go_wp2
    go_ret
    exact ⟨rfl, H3.out.keeps.below (fun _ _ h => h)⟩
  have d3 : decide (200 < (m : Int)) = false := decide_eq_false (by omega)
  have G2 : Hid (n ≤ 12 ∧ 0 ≤ n) := ⟨by omega, by omega⟩
  have HM : Hid (m ≤ 200) := by show m ≤ 200; omega
  have HST : Hid (∀ (s : FS) (i : Nat), EpI s i b → (i : Int) < n → ∃ s', cmpF s (epJ i b) [⟨5, 0, b⟩] = (s', epJ (i + 1) b, 0) ∧ EpI s' (i + 1) b) := fun s i hi hlt => hi.step (by omega) HB.out.byte (by rw [HL.out]; omega)
  clear g1 g2 g3
  go_wp2
  clear d1 d2 d3
  go_loopw [7, 8] (fun jv iv wr => ∃ (i : Nat) (X : JX) (jb : Nat) (s : FS), (i : Int) ≤ n ∧ iv = .int .i64 i ∧ jv = .pointer (some ⟨jb, 0, none⟩) ∧ EpI s i b ∧ LJ W wr w1.heap.size q jb X s (epJ i b)) (fun _ iv _ => 12 - (intOf iv).toNat)
  case atStart => exact ⟨0, X, jb, f0, by have := G2.out; omega, rfl, rfl, I0.out, H3.out⟩
  case round =>
    obtain ⟨i, X1, jb1, s1, hi, rfl, rfl, hI, hJ⟩ := hrel
    have HI := Lib.hid hI
    have HJ := Lib.hid hJ
    clear hI hJ H3 I0
    have hn := G2.out
    by_cases hlt : (i : Int) < n
    · have d1 : decide ((i : Int) < n) = true := decide_eq_true hlt
      obtain ⟨s2, e2, i2⟩ := HST.out s1 i HI.out hlt
      have E2 := Lib.hid e2
      have I2 := Lib.hid i2
      have V1 := Lib.hid (show Live s1 2 i (epC i) (epL i b) (epT i b) (98 - i + 1) from HI.out.live.less (by omega))
      clear e2 i2
      have CMP := Lib.hid (fun (w : World) {A2 : Option Addr} {k cap : Nat} {rs : List RV} {P : Nat → Prop} (h : LJ W w w1.heap.size q jb1 X1 s1 (epJ i b)) (hr : Rws w A2 k cap rs) (hb : Bds w P rs) (hk : k ≤ 100000) (hbl : ∀ r ∈ rs, r.b.length ≤ 140737488355328) => ljcompact (l := epL i b) (T := epT i b) h V1.out hr hb hk hbl)
      go_wp2_with fail
      have HA := Lib.hid (HJ.out.alloc (.cells #[.int .i64 5, .int .i64 0, .slice A m cap] 32))
      refine (CMP.out _ HA.out (rs := [⟨5, 0, A, cap, b⟩]) (P := fun _ => True) (Rws.one _ (by show Blk _ _ [_, _, .slice A b.length cap] _; rw [HL.out]; exact Blk.new _ _ _)) (Bds.one (by show Bs _ A b.length cap b; rw [HL.out]; exact HB.out.keeps (HA.out.keeps) (fun _ _ _ _ _ h => h)) (fun x hx => ⟨trivial, ?_⟩)) (by decide) (fun r hr => by rw [List.mem_singleton.1 hr]; have := HL.out; have := HM.out; show b.length ≤ _; omega)).mono ?_
      · obtain ⟨off, h0, e⟩ := hx
        have h0 : 0 < b.length := h0
        rw [HL.out] at h0
        have h1 := HB.out.blt h0 e
        exact Nat.lt_of_lt_of_le h1 HA.out.keeps.size
      show ∀ e w', LJDone W _ _ q jb1 X1 (cmpF s1 (epJ i b) [⟨5, 0, b⟩]) e w' → _
      rw [E2.out]
      rintro e w4 ⟨rfl, X4, h4, -⟩
      have H4 := Lib.hid h4
      obtain ⟨F1, F2, F3⟩ := epJ_facts I2.out
      have EE := Lib.hid F1
      have OK := Lib.hid F2
      have LL := Lib.hid (F3 (by omega))
      simp only [] at H4
      clear h4 HA CMP HJ F1 F2 F3 V1
      go_wp2_with fail
      refine (num22_any _ _).mono ?_
      rintro e w5 ⟨rfl, rfl⟩
      go_wp2_with fail
      refine (ljepoch H4.out).mono ?_
      rw [EE.out]
      rintro e w5 ⟨rfl, rfl⟩
      have b1 : (((i + 1 : Nat) : Int) != (i : Int) + 1) = false := by simp
      have b2 : (((i + 1 : Nat) : Int) == (i : Int) + 1) = true := by simp
      go_wp2_with fail
      refine (OPN.out _ _ I2.out _ _ _ _ H4.out.lf).mono ?_
      rintro e w6 ⟨X6, jb6, rfl, h6, -, -⟩
      have H6 : Hid (LJ W w6 _ q jb6 X6 s2 (epJ (i + 1) b)) := h6
      clear h6 H4
      go_wp2_with fail
      refine (ljepoch H6.out).mono ?_
      rw [EE.out]
      rintro e w7 ⟨rfl, rfl⟩
      go_wp2_with fail
      refine (ljall H6.out OK.out).mono ?_
      rintro e w8 ⟨A8, c8, rs8, rfl, -, -, k8⟩
      rw [LL.out]
      have H8 := Lib.hid (H6.out.later k8)
      clear k8 H6
      go_wp2
      go_roundw
      case rel => exact ⟨i + 1, X6, jb6, s2, by omega, by go_num, rfl, I2.out, H8.out⟩
      case measure => simp [intOf]; omega
    · obtain rfl : (i : Int) = n := by omega
      have d1 : decide ((i : Int) < (i : Int)) = false := decide_eq_false (by omega)
      have EA : Hid (s1.erasesF 0 = erA i) := by show FS.erasesF s1 0 = _; unfold FS.erasesF; rw [HI.out.er]; rfl
      have EB : Hid (s1.erasesF 1 = erB i) := by show FS.erasesF s1 1 = _; unfold FS.erasesF; rw [HI.out.er]; rfl
      by_cases q3 : i < 3
      · have d3 : decide ((i : Int) < 3) = true := decide_eq_true (by omega)
        have d4 : decide ((i : Int) < 4) = true := decide_eq_true (by omega)
        have ea : erA i = 0 := if_pos q3
        have eb : erB i = 0 := if_pos (by omega)
        rw [ea] at EA
        rw [eb] at EB
        clear q3 ea eb
        go_wp2_with fail
        refine (lerases HJ.out.lf 0).mono ?_
        rw [EA.out]
        rintro e w4 ⟨rfl, rfl⟩
        go_wp2_with fail
        refine (lerases HJ.out.lf 1).mono ?_
        rw [EB.out]
        rintro e w4 ⟨rfl, rfl⟩
        go_wp2
        go_ret
        exact ⟨rfl, HJ.out.keeps.below (fun _ _ h => h)⟩
      · have ea : erA i = (((i - 1) / 2 : Nat) : Int) := if_neg q3
        rw [ea] at EA
        have d3 : decide ((i : Int) < 3) = false := decide_eq_false (by omega)
        by_cases q4 : i < 4
        · have d4 : decide ((i : Int) < 4) = true := decide_eq_true (by omega)
          obtain rfl : i = 3 := by omega
          clear q3 q4
          go_wp2_with fail
          refine (lerases HJ.out.lf 0).mono ?_
          rw [EA.out]
          rintro e w4 ⟨rfl, rfl⟩
          go_wp2_with fail
          refine (lerases HJ.out.lf 1).mono ?_
          rw [EB.out]
          rintro e w4 ⟨rfl, rfl⟩
          go_wp2
          go_ret
          exact ⟨rfl, HJ.out.keeps.below (fun _ _ h => h)⟩
        · have d4 : decide ((i : Int) < 4) = false := decide_eq_false (by omega)
          have eb : erB i = (((i - 2) / 2 : Nat) : Int) := if_neg q4
          rw [eb] at EB
          clear ea eb
          obtain ⟨xa, hxa⟩ : ∃ x, (i - 1) / 2 = x := ⟨_, rfl⟩
          obtain ⟨xb, hxb⟩ : ∃ x, (i - 2) / 2 = x := ⟨_, rfl⟩
          rw [hxa] at EA
          rw [hxb] at EB
          have j1 : ((i : Int) - 1) / 2 = xa := by omega
          have j2 : ((i : Int) - 2) / 2 = xb := by omega
          clear q3
          go_wp2_with fail
          refine (lerases HJ.out.lf 0).mono ?_
          rw [EA.out]
          rintro e w4 ⟨rfl, rfl⟩
          go_wp2_with fail
          refine (lerases HJ.out.lf 1).mono ?_
          rw [EB.out]
          rintro e w4 ⟨rfl, rfl⟩
          go_wp2
          go_ret
          exact ⟨rfl, HJ.out.keeps.below (fun _ _ h => h)⟩
set_option maxRecDepth 100000 in
theorem JournalEpochs_lifted (os : Os) (started : os.Started) (H : Type) (enc : TypeId × Value → H) :
    ReturnsInHanded {} Try.checked os 3 .any (Rows.journalEpochsSpec.pre6 enc Try.prog Try.f3 Rows.journalEpochsRow.domain false) (Rows.journalEpochsSpec.post enc Try.prog Try.f3 false true false false) := by
  refine returnsInHanded_of_change (C := Try.checked) Try.own started (by kernel_rfl) Try.func3
    (ChangeSpec.witness6 (enc := enc) (C := Try.checked) false ⟨#[], #[.int .i64 0, .slice none 0 0], []⟩ 8 (by kernel_rfl) (by kernel_rfl) (by kernel_rfl) (by kernel_rfl)) ?_
  intro W base args ds gs before hval0 hW hcnd _
  have hval : ∀ (j : Nat) t v, Try.f3.params[j]? = some t → args[j]? = some v → Value.okWide Try.prog W .any base t v := hval0
  have hW' := hW
  obtain ⟨p, q, hA0, hV, rfl, hfz, hnd⟩ := hW
  have hA : DataW.TrodAll enc Try.prog W 0 (fun _ => true) true Try.f3.params.toList args.toList ds p := hA0
  rw [Try.params3] at hA hval
  obtain ⟨v0, vs0, d0, ds0, p0, q0, hargs, rfl, rfl, h0, r0⟩ := trodAll_cons hA
  obtain ⟨v1, vs1, d1, ds1, p1, q1, rfl, rfl, rfl, h1, r1⟩ := trodAll_cons r0
  obtain ⟨rfl, rfl, rfl⟩ := trodAll_nil r1
  obtain rfl : args = #[v0, v1] := by cases args; simp_all
  obtain ⟨rfl, rfl⟩ := trodVars_none hV
  have k0 := h0
  have lt0 : ∀ x ∈ p0, x.block < W.heap.size := by obtain ⟨m, hm⟩ := k0; exact DataW.trod_lt m _ _ _ hm
  obtain ⟨a0, rfl, rfl, rfl, w0⟩ := open_int Try.underlying3 (hval 0 3 v0 rfl rfl) h0
  have k1 := h1
  have lt1 : ∀ x ∈ p1, x.block < W.heap.size := by obtain ⟨m, hm⟩ := k1; exact DataW.trod_lt m _ _ _ hm
  obtain ⟨a1, len1, cap1, rfl⟩ := okWide_slice Try.underlying22 (hval 1 22 v1 rfl rfl)
  obtain ⟨z1, s1⟩ := open_bs h1
  clear hA0 hval0
  refine (epochs_any a0 a1 len1 cap1 z1 W s1).mono fun e W' ⟨he, bel⟩ => ?_
  subst he
  exact ⟨_, rfl, _, _, _, [], _, [], hW', trodAll_mk1 (shut_bool Try.underlying4 _), (trodAll_cons_mk (Below.trod Try.laidOut (by kernel_rfl) (of_decide_eq_true (by kernel_rfl)) k0 bel lt0) (trodAll_cons_mk (Below.trod Try.laidOut (by kernel_rfl) (of_decide_eq_true (by kernel_rfl)) k1 bel lt1) trodAll_mk0)), rfl, bel.frame _, fun h => by cases h⟩

set_option maxRecDepth 100000 in
theorem JournalEpochs_closed : joinedFacts Try.checked.prog 3 Try.f3 Rows.journalEpochsSpec Rows.journalEpochsRow = true := by
  unfold joinedFacts
  rw [closed_laid, closed_maps, closed_heard, closed_plain, closed_mayEnter, closed_lifts, closed_make]
  kernel_rfl

theorem JournalEpochs_holds : Rows.JournalEpochsSaid :=
  OpenClaim.holds_of_wide 3 Try.f3 rfl rfl rfl rfl rfl rfl rfl ⟨rfl, rfl, rfl, rfl, rfl⟩ rfl rfl rfl rfl rfl (by kernel_rfl) Try.func3 JournalEpochs_closed
    (of_decide_eq_true (by kernel_rfl)) (by unfold Func.isWrapper; first | (rw [if_pos (by decide +kernel)]; kernel_rfl) | (rw [if_neg (by decide +kernel)]; exact ⟨rfl, rfl⟩))
    (fun os started H enc _ => JournalEpochs_lifted os started H enc)
#print axioms JournalEpochs_holds
end Go.Proofs.Ytbefbojeojokjaa
