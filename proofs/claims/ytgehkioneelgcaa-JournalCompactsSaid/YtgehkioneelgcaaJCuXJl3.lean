
/- A journal's calls in a law's world; the law's alive. -/
import Derived.Test.YtgehkioneelgcaaJCuXJl2
namespace Go.Proofs.Ytgehkioneelgcaa
open Go.RowKit

section
variable {W w : World} {B q jb : Nat} {X : JX} {s : FS} {j : JS} {n e : Nat} {c : Int} {l : List Rec} {T : List Int} {m : Nat}
theorem ljcompact (h : LJ W w B q jb X s (keptJ e c l T)) (v : Live s n e c l T (m + 1))
    {A : Option Addr} {k cap : Nat} {rs : List RV} {P : Nat → Prop} (hr : Rws w A k cap rs) (hb : Bds w P rs) (hk : k ≤ 100000) (hbl : ∀ r ∈ rs, r.b.length ≤ 140737488355328) :
    Calls Try.prog 10 #[.pointer (some ⟨jb, 0, none⟩), .slice A k cap] w (LJDone W w B q jb X (cmpF s (keptJ e c l T) (rs.map RV.r))) := by
  rw [← h.jbe]
  exact (jcompact_any B q X s (keptJ e c l T) A k cap rs P w h.at_ (by have h1 := h.at_.f.el; rw [v.g.el] at h1; have h2 := v.g.n2; omega) v.keep.ok hr hb hk hbl (v.rm.room 2001 (by decide))).mono fun e w' ⟨h1, X', t⟩ => ⟨h1, X', h.jbe ▸ h.next t, t⟩
theorem ljappend (h : LJ W w B q jb X s (keptJ e c l T)) (v : Live s n e c l T m)
    (kind : Int) {A : Option Addr} {k cap : Nat} {body : List Int} (hb : Bs w A k cap body) (hk : k ≤ 140737488355328) :
    Calls Try.prog 16 #[.pointer (some ⟨jb, 0, none⟩), .int .i64 kind, .slice A k cap] w (LJDone W w B q jb X (appF s (keptJ e c l T) kind body)) := by
  rw [← h.jbe]
  exact (jappend_any B q X s (keptJ e c l T) kind A k cap body w h.at_ v.keep.ok hb hk (by have := v.rm.st; omega)).mono fun e w' ⟨h1, X', t⟩ => ⟨h1, X', h.jbe ▸ h.next t, t⟩
def JAllTold (w : World) (X : JX) (l : List Rec) (e : Ending) (w' : World) : Prop := ∃ A cap rs, e = .returned (.slice A l.length cap) ∧ Row w' X A l.length cap rs ∧ rs.map RV.r = l ∧ Keeps None w w'
theorem ljall (h : LJ W w B q jb X s j) (ok : JOk j) : Calls Try.prog 11 #[.pointer (some ⟨jb, 0, none⟩)] w (JAllTold w X j.l) := by
  rw [← h.jbe]
  refine (jall_any B q X s j w h.at_ (by have := ok.ll; omega) (fun r hr => by have := ok.bl r hr; omega)).mono ?_
  rintro e w' ⟨v, rs', rfl, cp, hm⟩
  obtain ⟨A, cap, rfl, hr⟩ := Row.copied h.at_ cp
  have e : rs'.length = j.l.length := by rw [← hm, List.length_map]
  rw [e] at hr ⊢
  exact ⟨A, cap, rs', rfl, hr, hm, cp.k⟩
theorem ljepoch (h : LJ W w B q jb X s j) : Calls Try.prog 19 #[.pointer (some ⟨jb, 0, none⟩)] w (Same (.int .i64 (j.epoch : Int)) w) := by rw [← h.jbe]; exact jepoch_any B q X s j w h.at_
theorem ljtorn (h : LJ W w B q jb X s j) : Calls Try.prog 20 #[.pointer (some ⟨jb, 0, none⟩)] w (Same (.bool j.torn) w) := by rw [← h.jbe]; exact jtorn_any B q X s j w h.at_
theorem ljroom (h : LJ W w B q jb X s j) (ok : JOk j) : Calls Try.prog 18 #[.pointer (some ⟨jb, 0, none⟩)] w (Same (.int .i64 j.room) w) := by rw [← h.jbe]; exact jroom_any B q X s j w h.at_ ok.used
def LJOpen (W w : World) (B q : Nat) (L : FL) (s : FS) (j : JS) (e' : Ending) (w' : World) : Prop := ∃ (X : JX) (jb : Nat), e' = .returned (.pointer (some ⟨jb, 0, none⟩)) ∧ LJ W w' B q jb X s j ∧ (X.L = L ∧ ∀ k, X.S k → L.O k ∨ w.heap.size ≤ k) ∧ Keeps None w w'
theorem ljopen {L : FL} (h : LF W w B q L s) (g : FG s n) (hd : s.dark = false) (k : Keep s e c l T) :
    Calls Try.prog 8 #[.pointer (some ⟨q, 0, none⟩)] w (LJOpen W w B q L s (keptJ e c l T)) := by
  rw [← k.open g]
  exact open22_any h hd (by have h1 := h.at_.el; rw [g.el] at h1; have h2 := g.n2; omega)
theorem Live.opened {L : FL} (v : Live s n e c l T m) (h : LF W w B q L s) : Calls Try.prog 8 #[.pointer (some ⟨q, 0, none⟩)] w (LJOpen W w B q L s (keptJ e c l T)) := ljopen h v.g v.dark v.keep
end
theorem Rws.none (w : World) : Rws w .none 0 0 [] := ⟨rfl, Nat.le_refl _, by decide, fun _ => ⟨rfl, rfl⟩, fun h => absurd h (Nat.lt_irrefl _)⟩
theorem keptJ_ge {e : Nat} {c : Int} {l : List Rec} {T : List Int} (h : c ≠ -1) : keptJ e c l T = ⟨l, e, c, 16 + (pkL l).length, !blankB T, 0⟩ := if_neg h
theorem keptJ_torn {e : Nat} {c : Int} {l : List Rec} {k : Nat} (h : c ≠ -1) : (keptJ e c l (blk k)).torn = false := by
  rw [keptJ_ge h]
  show (!blankB (blk k)) = false
  rw [show blankB (blk k) = true from blank_rep k]
  rfl
theorem keptJ_room {e : Nat} {c : Int} {l : List Rec} {k : Nat} (h : c ≠ -1) (hk : (pkL l).length + k = 1008) : (keptJ e c l (blk k)).room = k := by
  unfold JS.room
  rw [if_neg]
  · rw [keptJ_ge h]
    show 1024 - ((16 + (pkL l).length : Nat) : Int) = k
    omega
  · rw [keptJ_torn h, keptJ_ge h]
    rintro (h1 | h1)
    · cases h1
    · exact h h1
theorem alive22_plain : ∃ s1, cmpF (newF ((2 : Nat) : Int)) (keptJ 0 (-1) [] []) [] = (s1, keptJ 1 0 [] (blk 1008), 0) ∧ (keptJ 1 0 [] (blk 1008)).room = 1008 ∧ (keptJ 1 0 [] (blk 1008)).torn = false ∧ (keptJ 1 0 [] (blk 1008)).l = [] ∧ (keptJ 1 0 [] (blk 1008)).epoch = 1 ∧ (keptJ 0 (-1) [] []).epoch = 0 ∧ Live s1 2 1 0 [] (blk 1008) 99 := by
  rcases (Live.new 2 (by decide) (by decide)).cmp (m := 99) (by decide) [] (fun r hr => by cases hr) with ⟨h, -⟩ | ⟨s', -, -, -, h1, h2, -⟩
  · cases h
  · have e : 1008 - (pkL (numR 0 ([] : List Rec))).length = 1008 := rfl
    rw [e] at h1 h2
    have e2 : (numR 0 ([] : List Rec)) = [] := rfl
    have e3 : nextZ (-1) = 0 := rfl
    rw [e2, e3, Nat.zero_add] at h1 h2
    exact ⟨s', h1, keptJ_room (l := []) (by decide) (by decide), keptJ_torn (by decide), by rw [keptJ_ge (by decide)], by rw [keptJ_ge (by decide)], rfl, h2⟩
set_option maxRecDepth 100000 in
set_option maxHeartbeats 1600000 in
theorem alive22_any (W : World) : Calls Try.prog 6 #[] W fun e w' => e = .returned (.bool true) ∧ Keeps None W w' := by
  obtain ⟨s1, p1, p2, p3, p4, p5, p6, p7⟩ := alive22_plain
  have V0 := Lib.hid (Live.new 2 (by decide) (by decide))
  have P1 := Lib.hid p1
  have P2 := Lib.hid p2
  have P3 := Lib.hid p3
  have P4 := Lib.hid p4
  have P5 := Lib.hid p5
  have P6 := Lib.hid p6
  have V1 := Lib.hid p7
  have OK1 := Lib.hid p7.keep.ok
  have NW := Lib.hid (lnew (Keeps.refl None W) ((2 : Nat) : Int))
  have OPN := Lib.hid (fun (w : World) B q L (h : LF W w B q L (newF ((2 : Nat) : Int))) => V0.out.opened h)
  have CMP := Lib.hid (fun (w : World) B q jb X (h : LJ W w B q jb X (newF ((2 : Nat) : Int)) (keptJ 0 (-1) [] [])) => ljcompact h V0.out (m := 99) (A := none) (k := 0) (cap := 0) (rs := []) (P := fun _ => True) (Rws.none w) (Bds.nil _ _) (by decide) (fun r hr => by cases hr))
  rw [show ([] : List RV).map RV.r = [] from rfl, p1] at CMP
  clear p1 p2 p3 p4 p5 p6 p7
  generalize keptJ 1 0 [] (blk 1008) = j1 at *
  generalize keptJ 0 (-1) [] [] = j0 at *
  generalize newF ((2 : Nat) : Int) = f0 at *
  go_enter Try.func6, Try.ntmps6
  go_wp2_with fail
  refine NW.out.mono ?_
  rintro e w1 ⟨q, L, rfl, hF⟩
  have HF := Lib.hid hF
  clear hF NW
  go_wp2_with fail
  refine (OPN.out _ _ _ _ HF.out).mono ?_
  rintro e w2 ⟨X, jb, rfl, h2, -, -⟩
  have H2 := Lib.hid h2
  clear h2 HF OPN
  go_wp2_with fail
  refine (ljepoch H2.out).mono ?_
  rw [P6.out]
  rintro e w3 ⟨rfl, rfl⟩
  go_wp2_with fail
  refine (CMP.out _ _ _ _ _ H2.out).mono ?_
  rintro e w4 ⟨rfl, X1, h4, -⟩
  have H4 := Lib.hid h4
  simp only [] at H4
  clear h4 H2 CMP
  go_wp2_with fail
  refine (num22_any _ _).mono ?_
  rintro e w5 ⟨rfl, rfl⟩
  go_wp2_with fail
  refine (ljepoch H4.out).mono ?_
  rw [P5.out]
  rintro e w6 ⟨rfl, rfl⟩
  go_wp2_with fail
  refine (ljroom H4.out OK1.out).mono ?_
  rw [P2.out]
  rintro e w6 ⟨rfl, rfl⟩
  go_wp2_with fail
  refine (ljall H4.out OK1.out).mono ?_
  rw [P4.out]
  rintro e w7 ⟨A, cap, rs, rfl, -, -, k7⟩
  have H7 := Lib.hid (H4.out.later k7)
  clear k7 H4
  go_wp2_with fail
  refine (ljtorn H7.out).mono ?_
  rw [P3.out]
  rintro e w8 ⟨rfl, rfl⟩
  go_wp2
  go_ret
  exact ⟨rfl, H7.out.keeps⟩
end Go.Proofs.Ytgehkioneelgcaa
