
/- A ledger in a law's world; the walk of keep. -/
import Derived.Test.YtfldgaiiniknpaaLCuXLg10
import Derived.Test.YtfldgaiiniknpaaLCuXJl3
namespace Go.Proofs.Ytfldgaiiniknpaa
open Go.RowKit

theorem ljappendG {W w : World} {B q jb : Nat} {X : JX} {s : FS} {j : JS} {m : Nat} (h : LJ W w B q jb X s j) (ok : JOk j) (rm : JRm s m)
    (kind : Int) {A : Option Addr} {k cap : Nat} {body : List Int} (hb : Bs w A k cap body) (hk : k ≤ 140737488355328) :
    Calls Try.prog 59 #[.pointer (some ⟨jb, 0, none⟩), .int .i64 kind, .slice A k cap] w (LJDone W w B q jb X (appF s j kind body)) := by
  rw [← h.jbe]
  exact (jappend_any B q X s j kind A k cap body w h.at_ ok hb hk (by have := rm.st; omega)).mono fun e w' ⟨h1, X', t⟩ => ⟨h1, X', h.jbe ▸ h.next t, t⟩
theorem ljcompactG {W w : World} {B q jb : Nat} {X : JX} {s : FS} {j : JS} {m : Nat} (h : LJ W w B q jb X s j) (ok : JOk j) (hn : 2 ≤ s.er.length) (rm : JRm s (m + 1625))
    {A : Option Addr} {k cap : Nat} {rs : List RV} {P : Nat → Prop} (hr : Rws w A k cap rs) (hb : Bds w P rs) (hk : k ≤ 100000) (hbl : ∀ r ∈ rs, r.b.length ≤ 140737488355328) :
    Calls Try.prog 60 #[.pointer (some ⟨jb, 0, none⟩), .slice A k cap] w (LJDone W w B q jb X (cmpF s j (rs.map RV.r))) := by
  rw [← h.jbe]
  exact (jcompact_any B q X s j A k cap rs P w h.at_ (by have h1 := h.at_.f.el; omega) ok hr hb hk hbl (rm.room 2001 (by decide))).mono fun e w' ⟨h1, X', t⟩ => ⟨h1, X', h.jbe ▸ h.next t, t⟩
theorem ChkV.turn {w w' : World} {B q : Nat} {R : Nat → Prop} {X X' : JX} {s' : FS} {j' : JS} {A : Option Addr} {n cap : Nat} {zs : List Int} (h : ChkV w (fun b => B ≤ b ∧ ¬ X.S b ∧ R b) A n cap zs) (t : JTurn w w' B q X X' s' j') : ChkV w' (fun b => B ≤ b ∧ ¬ X'.S b ∧ R b) A n cap zs :=
  ⟨h.b.keeps t.keeps (fun b off hn _ e => (h.p b off hn e).1.2.1), fun g off hn e => ⟨⟨(h.p g off hn e).1.1, fun hS => (t.o g hS).elim (h.p g off hn e).1.2.1 (fun h2 => by have := (h.p g off hn e).2; omega), (h.p g off hn e).1.2.2⟩, Nat.lt_of_lt_of_le (h.p g off hn e).2 t.keeps.size⟩⟩
theorem JTurn.out {w w' : World} {B q lb : Nat} {X X' : JX} {s' : FS} {j' : JS} (t : JTurn w w' B q X X' s' j') (hl : ¬ X.S lb) (hw : lb < w.heap.size) : ¬ X'.S lb := fun hS => (t.o lb hS).elim hl (fun h => by omega)
theorem LJ.keepsG {W w w' : World} {B q jb : Nat} {X : JX} {s : FS} {j : JS} {S : Nat → Prop} (h : LJ W w B q jb X s j) (k : Keeps S w w') (h1 : ∀ b, X.S b → ¬ S b) (h2 : ∀ b, b < W.heap.size → ¬ S b) : LJ W w' B q jb X s j :=
  ⟨h.at_.keeps k h1, h.jbe, h.keeps.trans k (fun _ h => h) (fun b hb hs => absurd hs (h2 b hb)), h.le⟩
theorem Copied.plus {w a w' : World} {v : Value} {rs : List RV} {r : RV} (h : Copied w a v rs) (hr : Bs a r.A r.b.length r.c r.b) (hp : ∀ b, r.at_ b → b < w.heap.size) (k : Keeps (fun k => v.ownBlock = some k) a w') : Bds w' (fun _ => True) (rs ++ [r]) ∧ Keeps None w w' := by
  refine ⟨⟨fun x hx => ?_, fun x hx b hb => ⟨trivial, ?_⟩⟩, h.k.trans k (fun _ h => absurd h (fun h => h)) (fun b hb e => absurd (h.o.block e).1 (by omega))⟩
  · rcases List.mem_append.1 hx with h1 | h1
    · exact (h.bd.keeps k (fun b hb _ e => hb.2 e)).bs x h1
    · rw [List.mem_singleton.1 h1]
      exact hr.keeps k (fun b off hn _ e hs => by have h2 := hp b ⟨off, by rw [hr.len]; exact hn, e⟩; have h3 := (h.o.block hs).1; omega)
  · have h1 := k.size
    have h2 := h.k.size
    rcases List.mem_append.1 hx with h3 | h3
    · have := (h.bd.p x h3 b hb).2; omega
    · rw [List.mem_singleton.1 h3] at hb
      have := hp b hb; omega
theorem Bs.at_lt {w : World} {A : Option Addr} {n c : Nat} {zs : List Int} {k s : Int} (h : Bs w A n c zs) : ∀ b, (⟨k, s, A, c, zs⟩ : RV).at_ b → b < w.heap.size := by
  rintro b ⟨off, h0, e⟩
  obtain ⟨b', off', e', hlt, -⟩ := h.at_ (by rw [← h.len]; exact h0)
  rw [show A = some ⟨b, off, Option.none⟩ from e] at e'
  cases e'
  exact hlt
def St.lcs (s : St) (jb : Nat) (A : Option Addr) (n cap : Nat) : List Value := .pointer (some ⟨jb, 0, none⟩) :: s.cs A n cap
/-- A ledger in a law's world. -/
structure LG (W w : World) (B q lb jb : Nat) (X : JX) (s : FS) (j : JS) (st : St) (A : Option Addr) (n cap : Nat) : Prop where
  lj : LJ W w B q jb X s j
  l : Blk w lb (st.lcs jb A n cap) 93
  lS : ¬ X.S lb
  lB : B ≤ lb
  m : ChkV w (fun b => B ≤ b ∧ ¬ X.S b ∧ ¬ b = lb) A n cap st.k.mid
  inv : st.inv
theorem LG.later {W w w' : World} {B q lb jb : Nat} {X : JX} {s : FS} {j : JS} {st : St} {A : Option Addr} {n cap : Nat} (h : LG W w B q lb jb X s j st A n cap) (k : Keeps None w w') : LG W w' B q lb jb X s j st A n cap :=
  ⟨h.lj.later k, k.blk h.l (fun h => h), h.lS, h.lB, h.m.later k, h.inv⟩
theorem LG.turn {W w w' : World} {B q lb jb : Nat} {X X' : JX} {s s' : FS} {j j' : JS} {st : St} {A : Option Addr} {n cap : Nat} (h : LG W w B q lb jb X s j st A n cap) (t : JTurn w w' B q X X' s' j') : LG W w' B q lb jb X' s' j' st A n cap :=
  ⟨h.lj.next t, t.keeps.blk h.l h.lS, t.out h.lS h.l.lt, h.lB, h.m.turn t, h.inv⟩
/-- keep in plain words. -/
def nextS (st : St) (kind : Int) (body : List Int) : St := foldS (recsS st ++ [⟨kind, 0, body⟩])
def keepF (s : FS) (j : JS) (st : St) (kind : Int) (body : List Int) : FS × JS × St × Int :=
  let a := appF s j kind body
  let r := if a.2.2 = 14 then cmpF a.1 a.2.1 (recsS (nextS st kind body)) else a
  (r.1, r.2.1, if r.2.2 = 0 then nextS st kind body else st, r.2.2)
/-- What a call may have changed: the journal's blocks, the flash's, and the ledger's own. -/
structure LGT (lb : Nat) (X X' : JX) (w w' : World) : Prop where
  keeps : Keeps (fun b => X.S b ∨ b = lb) w w'
  o : ∀ k, X'.S k → X.S k ∨ w.heap.size ≤ k
theorem LGT.same {lb : Nat} {X : JX} {w w' : World} (k : Keeps None w w') : LGT lb X X w w' := ⟨k.mono (fun _ _ h => absurd h (fun h => h)), fun _ h => .inl h⟩
theorem LGT.ahead {lb : Nat} {X X' : JX} {w w1 w' : World} (k : Keeps None w w1) (t : LGT lb X X' w1 w') : LGT lb X X' w w' :=
  ⟨k.trans t.keeps (fun _ h => absurd h (fun h => h)) (fun _ _ h => h), fun b h => (t.o b h).imp id (fun h2 => Nat.le_trans k.size h2)⟩
theorem LGT.jturn {lb q B : Nat} {X X' : JX} {w w' : World} {s' : FS} {j' : JS} (t : JTurn w w' B q X X' s' j') : LGT lb X X' w w' := ⟨t.keeps.mono (fun _ _ h => .inl h), t.o⟩
theorem LGT.trans {lb : Nat} {X X1 X2 : JX} {w w1 w2 : World} (t : LGT lb X X1 w w1) (u : LGT lb X1 X2 w1 w2) : LGT lb X X2 w w2 :=
  ⟨t.keeps.trans u.keeps (fun _ h => h) (fun b hb h => h.elim (fun h1 => (t.o b h1).elim .inl (fun h2 => by omega)) .inr), fun b h => (u.o b h).elim (t.o b) (fun h2 => .inr (Nat.le_trans t.keeps.size h2))⟩
theorem LGT.store {lb : Nat} {X X1 : JX} {w w1 w2 : World} (t : LGT lb X X1 w w1) (k : Keeps (fun b => b = lb) w1 w2) : LGT lb X X1 w w2 :=
  ⟨t.keeps.trans k (fun _ h => h) (fun _ _ h => .inr h), t.o⟩
def LGDone (W w : World) (B q lb jb : Nat) (X0 : JX) (r : FS × JS × St × Int) (e : Ending) (w' : World) : Prop :=
  e = .returned (.int .i64 r.2.2.2) ∧ ∃ X A n cap, LG W w' B q lb jb X r.1 r.2.1 r.2.2.1 A n cap ∧ LGT lb X0 X w w'
theorem recsS_byt {st : St} (h : st.inv) : ∀ r ∈ recsS st, Byt r.b := by
  have hl : ∀ n, Byt (lowL 8 n) := fun n => lowL_byte 8 n
  have happ : ∀ {x y : List Int}, Byt x → Byt y → Byt (x ++ y) := fun hx hy z hz => (List.mem_append.1 hz).elim (hx z) (hy z)
  intro r hr
  unfold recsS at hr
  rcases List.mem_append.1 hr with h1 | h1
  · split at h1
    · rw [List.mem_singleton.1 h1]
      show Byt (comL st.c)
      unfold comL
      split
      · exact happ (hl _) (happ (hl _) (happ (hl _) (happ (hl _) h.co.mb)))
      · intro z hz; cases hz
    · cases h1
  · split at h1
    · rw [List.mem_singleton.1 h1]
      show Byt (chkL st.k)
      unfold chkL
      split
      · exact happ (hl _) (happ (hl _) (happ (hl _) (happ h.ko.ib h.ko.mb)))
      · intro z hz; cases hz
    · cases h1
theorem nextS_inv {st : St} (h : st.inv) (kind : Int) {body : List Int} (hb : Byt body) : (nextS st kind body).inv :=
  foldS_inv fun r hr => (List.mem_append.1 hr).elim (recsS_byt h r) (fun h1 => by rw [List.mem_singleton.1 h1]; exact hb)
theorem recsS_short {st : St} (h : st.inv) : ∀ r ∈ recsS st, r.b.length ≤ 512 := by
  intro r hr
  unfold recsS at hr
  rcases List.mem_append.1 hr with h1 | h1
  · split at h1
    · rename_i hp
      rw [List.mem_singleton.1 h1]
      show (comL st.c).length ≤ 512
      rw [comL_len (comL_pos.1 hp), h.co.ml]
      decide
    · cases h1
  · split at h1
    · rename_i hp
      rw [List.mem_singleton.1 h1]
      show (chkL st.k).length ≤ 512
      rw [chkL_len (chkL_pos.1 hp.2) h.ko]
      decide
    · cases h1
theorem lcs_put {s s' : St} (o : s.ok) (o' : s'.ok) (jb : Nat) (A A' : Option Addr) (n cap n' cap' : Nat) : splice (s.lcs jb A n cap) 1 (s'.cs A' n' cap') = s'.lcs jb A' n' cap' := by
  simp only [splice, St.lcs]
  rw [List.drop_eq_nil_of_le (by simp [St.cs_len o, St.cs_len o'])]
  simp
set_option maxRecDepth 100000 in
set_option maxHeartbeats 3200000 in
theorem lgkeep_any {W w : World} {B q lb jb : Nat} {X : JX} {s : FS} {j : JS} {st : St} {A : Option Addr} {n cap m : Nat} (h : LG W w B q lb jb X s j st A n cap) (ok : JOk j) (kind : Int) {bA : Option Addr} {bn bc : Nat} {body : List Int} (hb : Bs w bA bn bc body) (hbn : bn ≤ 600)
    (hbS : ∀ b off, 0 < bn → bA = some ⟨b, off, none⟩ → ¬ X.S b) (ok2 : JOk (appF s j kind body).2.1) (hel : 2 ≤ (appF s j kind body).1.er.length) (rm : JRm s (m + 3250)) :
    Calls Try.prog 51 #[.pointer (some ⟨lb, 0, none⟩), .int .i64 kind, .slice bA bn bc] w (LGDone W w B q lb jb X (keepF s j st kind body)) := by
  have G := Lib.hid h
  have OK := Lib.hid ok
  have OK2 := Lib.hid ok2
  have HEL := Lib.hid hel
  have RM := Lib.hid rm
  have RM2 := Lib.hid (JRm.app (m := m + 1625) (rm.less (by omega)) j kind body)
  have HB := Lib.hid hb
  have HLN := Lib.hid hb.len
  have HBS := Lib.hid hbS
  have hle := hb.le
  have hmx := hb.max
  have SO := Lib.hid h.inv.ok
  have NI := Lib.hid (nextS_inv h.inv kind hb.byte)
  have RC := Lib.hid (lgrecs_any st h.inv.ok A n cap _ w h.m)
  unfold St.v at RC
  have RL := recsS_len st
  have KF : Hid (keepF s j st kind body = keepF s j st kind body) := rfl
  clear h ok ok2 hel rm hb hbS
  go_enter Try.func51, Try.ntmps51
  go_wp2_with (refine wpList_load_blk (b := lb) (o := 1) (ds := st.cs A n cap) G.out.l (fun j v hv => by rw [Nat.add_comm]; exact hv) rfl rfl rfl Try.underlying39 rfl (by rw [St.cs_len SO.out]; exact st_size) ?_)
  go_wp2_with fail
  refine RC.out.mono ?_
  rintro e w1 ⟨v1, rs1, rfl, cp1, hm1⟩
  obtain ⟨A1, c1, rfl, r1, -⟩ := cp1.o.shape
  have l1 := r1.le
  have m1 := r1.max
  have CP1 := Lib.hid cp1
  have HM1 := Lib.hid hm1
  have G1 := Lib.hid (G.out.later cp1.k)
  have B1 := Lib.hid (HB.out.keeps cp1.k (fun _ _ _ _ _ h => h))
  have LR1 : rs1.length ≤ 2 := by have := congrArg List.length hm1; rw [List.length_map] at this; omega
  clear cp1 hm1 r1 RC
  go_wp2_with (at_builtin; refine Hid.out ?_)
  refine Lib.hid ?_
  refine wpList_append_recs (ns := [⟨kind, 0, bA, bc, body⟩]) (CP1.out.later ((Keeps.refl None w1).alloc _)).o (Rws.one _ (by
    show Blk _ _ [.int .i64 kind, .int .i64 0, .slice bA body.length bc] _
    rw [HLN.out]
    exact Blk.new w1 [.int .i64 kind, .int .i64 0, .slice bA bn bc] 58)) (by omega) (Nat.le_trans CP1.out.k.size (by simp)) (by rfl) (by rfl) (by rfl) (by rfl) (by rfl) ?_
  intro v2 w2 o2 k2 d2
  obtain ⟨bd2, kk2⟩ := Copied.plus (r := ⟨kind, 0, bA, bc, body⟩) (CP1.out.later ((Keeps.refl None w1).alloc (.cells #[.int .i64 kind, .int .i64 0, .slice bA bn bc] 58))) (by show Bs _ bA body.length bc _; rw [HLN.out]; exact B1.out.keeps ((Keeps.refl None w1).alloc _) (fun _ _ _ _ _ h => h)) HB.out.at_lt k2
  obtain ⟨A2, c2, rfl, r2, -⟩ := o2.shape
  have FD := Lib.hid (lgfold_any _ _ _ _ _ w2 r2 bd2)
  rw [List.map_append, HM1.out, show foldS (recsS st ++ List.map RV.r [⟨kind, 0, bA, bc, body⟩]) = nextS st kind body from rfl] at FD
  have K2 := Lib.hid kk2
  have l2 := r2.le
  have m2 := r2.max
  obtain ⟨n2, hn2⟩ : ∃ x, (rs1 ++ [(⟨kind, 0, bA, bc, body⟩ : RV)]).length = x := ⟨_, rfl⟩
  rw [hn2] at FD l2 ⊢
  clear o2 k2 d2 bd2 kk2 r2 hn2 CP1 HM1 G1 B1
  obtain ⟨NX, hNX⟩ : ∃ x, nextS st kind body = x := ⟨_, rfl⟩
  obtain ⟨s5, j5, e5, hap⟩ : ∃ s5 j5 e5, appF s j kind body = (s5, j5, e5) := ⟨_, _, _, rfl⟩
  have AP := Lib.hid (fun (w : World) X (h : LJ W w B q jb X s j) (hb : Bs w bA bn bc body) => ljappendG h OK.out RM.out kind hb (by omega))
  rw [hap] at OK2 HEL RM2 AP
  have KE : Hid (keepF s j st kind body = ((if e5 = 14 then cmpF s5 j5 (recsS NX) else (s5, j5, e5)).1, (if e5 = 14 then cmpF s5 j5 (recsS NX) else (s5, j5, e5)).2.1, (if (if e5 = 14 then cmpF s5 j5 (recsS NX) else (s5, j5, e5)).2.2 = 0 then NX else st), (if e5 = 14 then cmpF s5 j5 (recsS NX) else (s5, j5, e5)).2.2)) := by
    show keepF _ _ _ _ _ = _
    unfold keepF
    rw [hap, hNX]
  rw [hNX] at FD NI
  clear hap hNX KF RM
  have NO := Lib.hid NI.out.ok
  go_wp2_with fail
  refine FD.out.mono ?_
  rintro e w3 ⟨A3, n3, c3, rfl, m3, k3⟩
  have NB3 := Lib.hid (Blk.new w3 (stZ.cs none 0 0) 39)
  have KN3 : Hid (Keeps None w3 (w3.alloc (.cells (stZ.cs none 0 0).toArray 39))) := (Keeps.refl None w3).alloc _
  rw [← st_zero] at NB3 KN3
  unfold St.v
  have M3 := Lib.hid m3.lt
  have K3 := Lib.hid (K2.out.trans k3 (T := None) (fun _ h => h) (fun _ _ h => h))
  clear m3 k3 FD
  go_wp2_with (refine wpList_store_blk (b := w3.heap.size) (o := 0) (ds := NX.cs A3 n3 c3) NB3.out (by rw [St.cs_len NO.out, St.cs_len stZ_ok]; decide) (St.cs_one _ _ _ _) rfl rfl rfl rfl (by rw [St.cs_len NO.out]; exact st_size) ?_)
  intro w4 b4 k4
  rw [splice_all (by rw [St.cs_len NO.out, St.cs_len stZ_ok])] at b4
  have NB4 := Lib.hid b4
  have K34 := Lib.hid (KN3.out.trans k4 (T := None) (fun _ h => h) (fun b hb e => absurd e (by omega)))
  have K4 := Lib.hid (K3.out.trans K34.out (T := None) (fun _ h => h) (fun _ _ h => h))
  have G4 := Lib.hid (G.out.later K4.out)
  have lbw := G.out.l.lt
  have lbB := G.out.lB
  have B4 := Lib.hid (HB.out.keeps K4.out (fun _ _ _ _ _ h => h))
  have sz2 := K2.out.size
  have sz3 := K3.out.size
  have JLT := Lib.hid (fun k hk => G.out.lj.at_.lt k hk)
  obtain ⟨nb, hnb⟩ : ∃ x, w3.heap.size = x := ⟨_, rfl⟩
  have M4 : Hid (ChkV w4 (fun b => B ≤ b ∧ ¬ X.S b ∧ ¬ b = lb ∧ ¬ b = nb) A3 n3 c3 NX.k.mid) := (M3.out.mono (fun b hb => by
    rcases hb.1 with h | h
    · exact absurd h (fun h => h)
    · exact ⟨by omega, fun hS => by have := JLT.out b hS; omega, by omega, by have := hb.2; omega⟩)).later K34.out
  rw [hnb] at NB4 sz3 ⊢
  have NS4 : Hid (¬ X.S nb) := fun hS => by have := JLT.out nb hS; omega
  have nlb : ¬ nb = lb := by omega
  clear b4 k4 NB3 KN3 M3 K3 K34 hnb K2 JLT
  have y0 := G4.out.l.cellD 0 _ rfl
  go_wp2_with fail
  refine (AP.out _ _ G4.out.lj B4.out).mono ?_
  rintro e w5 ⟨rfl, X5, h5, t5⟩
  have G5 := Lib.hid (G4.out.turn t5)
  have NB5 := Lib.hid (t5.keeps.blk NB4.out NS4.out)
  have NS5 := Lib.hid (t5.out NS4.out NB4.out.lt)
  have M5 := Lib.hid (M4.out.turn t5)
  have T5 : Hid (LGT lb X X5 w w5) := (LGT.jturn t5).ahead K4.out
  clear h5 t5 G4 NB4 NS4 M4 y0 B4 AP
  by_cases q14 : e5 = 14
  · rw [if_pos q14] at KE
    subst q14
    obtain ⟨s7, j7, e7, hcf⟩ : ∃ s7 j7 e7, cmpF s5 j5 (recsS NX) = (s7, j7, e7) := ⟨_, _, _, rfl⟩
    have KE2 : Hid (keepF s j st kind body = (s7, j7, (if e7 = 0 then NX else st), e7)) := by show keepF _ _ _ _ _ = _; rw [KE.out, hcf]
    have RC := Lib.hid (fun w h => lgrecs_any NX NO.out A3 n3 c3 (fun b => B ≤ b ∧ ¬ X5.S b ∧ ¬ b = lb ∧ ¬ b = nb) w h)
    unfold St.v at RC
    have CMP := Lib.hid (fun (w : World) (rs : List RV) (A : Option Addr) (k c : Nat) (P : Nat → Prop) (h : LJ W w B q jb X5 s5 j5) (hr : Rws w A k c rs) (hb : Bds w P rs) (hk : k ≤ 100000) (hm : rs.map RV.r = recsS NX) => ljcompactG h OK2.out HEL.out RM2.out hr hb hk (fun r hr => by
      have h1 := recsS_short NI.out r.r (by rw [← hm]; exact List.mem_map_of_mem hr)
      have h1 : r.b.length ≤ 512 := h1
      omega))
    have LS : Hid (∀ w', Keeps X5.S w5 w' → w'.cell? ⟨lb, 0, none⟩ = some (.pointer (some ⟨jb, 0, none⟩)) ∧ (Instr.loadAt 39 (.pointer (some ⟨nb, 0, none⟩))).run Try.prog w' = .ok (.agg (NX.cs A3 n3 c3).toArray) w') := fun w' k =>
      ⟨(k.blk G5.out.l G5.out.lS).cellD 0 _ rfl, run_loadAt_mid w' nb 0 39 (NX.cs A3 n3 c3) _ (blk_range (k.blk NB5.out NS5.out) (fun j v hv => by rw [Nat.zero_add]; exact hv)) Try.underlying39 rfl (by rw [St.cs_len NO.out]; exact st_size)⟩
    have KR := Lib.hid (Keeps.refl X5.S w5)
    have RLN := recsS_len NX
    clear KE
    go_wp2
    obtain ⟨mS, mh⟩ : ∃ S : World → Prop, ∀ w', S w' ↔ (w'.cell? ⟨lb, 0, none⟩ = some (.pointer (some ⟨jb, 0, none⟩)) ∧ ((Instr.loadAt 39 (.pointer (some ⟨nb, 0, none⟩))).run Try.prog w' = .ok (.agg (NX.cs A3 n3 c3).toArray) w')) := ⟨_, fun _ => Iff.rfl⟩
    have mk0 : ∀ x : Memb mS, x.at_.cell? ⟨lb, 0, none⟩ = some (.pointer (some ⟨jb, 0, none⟩)) := fun x => ((mh _).1 x.is).1
    have mk1 : ∀ x : Memb mS, (Instr.loadAt 39 (.pointer (some ⟨nb, 0, none⟩))).run Try.prog x.at_ = .ok (.agg (NX.cs A3 n3 c3).toArray) x.at_ := fun x => ((mh _).1 x.is).2
    have mn : Nonempty (Memb mS) := ⟨⟨(w5).drew, (mh _).2 ⟨(LS.out _ KR.out).1, (LS.out _ KR.out.drew).2⟩⟩⟩
    have mH := Lib.hid mh
    clear mh
    refine wp_region_mix [5, 6] (InS mS) (by kernel_rfl) (by kernel_rfl) (InS.mk ((mH.out _).2 ⟨(LS.out _ KR.out).1, (LS.out _ KR.out.drew).2⟩)) ?_
    refine wpMix_seg 5 (by kernel_rfl) (by decide) ?_
    simp only [List.take_succ_cons, List.take_zero, List.drop_succ_cons, List.drop_zero]
    repeat (first | go_big_quiet_step (fail) | (go_big_quiet_want; first | refine quiet_load mk1 rfl rfl rfl (by simp only [Act.put, List.setIfInBounds_toArray, List.set_cons_succ, List.set_cons_zero]; rfl) ?_; go_big_quiet_on))
    refine wpQuiet_nil ?_
    refine wpMix_eff (by kernel_rfl) ?_
    go_wp2_with fail
    refine (RC.out _ (M5.out.later (Keeps.refl None w5).drew)).mono ?_
    rintro e w6 ⟨v6, rs6, rfl, cp6, hm6⟩
    obtain ⟨A6, c6, rfl, r6, -⟩ := cp6.o.shape
    have q6 := r6.le
    have q7 := r6.max
    have R6 := Lib.hid r6
    have BD6 := Lib.hid cp6.bd
    have HM6 := Lib.hid hm6
    have KN6 := Lib.hid ((Keeps.refl None w5).drew.trans cp6.k (T := None) (fun _ h => h) (fun _ _ h => h))
    have KX6 := Lib.hid (KN6.out.mono (T := X5.S) (fun _ _ h => absurd h (fun h => h)))
    have L6 : rs6.length ≤ 2 := by (have h := congrArg List.length hm6; rw [List.length_map] at h; omega)
    clear cp6 hm6 r6
    go_wp2
    refine MixK.on (InS.mk ((mH.out _).2 (⟨(LS.out _ KX6.out).1, (LS.out _ KX6.out).2⟩))) ?_
    refine wpMix_eff (by kernel_rfl) ?_
    go_wp2_with fail
    refine (CMP.out _ _ _ _ _ _ (G5.out.lj.later KN6.out) R6.out BD6.out (by omega) HM6.out).mono ?_
    rw [HM6.out, hcf]
    rintro e w7 ⟨rfl, X7, h7, t7⟩
    have G7 := Lib.hid ((G5.out.later KN6.out).turn t7)
    have NB6 := Lib.hid (KN6.out.blk NB5.out (fun h => h))
    have NB7 := Lib.hid (t7.keeps.blk NB6.out NS5.out)
    have M7 := Lib.hid ((M5.out.later KN6.out).turn t7)
    have KX7 := Lib.hid (KX6.out.trans t7.keeps (fun _ h => h) (fun _ _ h => h))
    have T7 : Hid (LGT lb X X7 w w7) := T5.out.trans ((LGT.jturn t7).ahead KN6.out)
    clear h7 t7
    go_wp2
    refine MixK.on (InS.mk ((mH.out _).2 (⟨(LS.out _ KX7.out).1, (LS.out _ KX7.out).2⟩))) ?_
    refine wpMix_seg 1 (by kernel_rfl) (by decide) ?_
    simp only [List.take_succ_cons, List.take_zero, List.drop_succ_cons, List.drop_zero]
    repeat (first | go_big_quiet_step (fail) | (go_big_quiet_want; first | refine quiet_load mk1 rfl rfl rfl (by simp only [Act.put, List.setIfInBounds_toArray, List.set_cons_succ, List.set_cons_zero]; rfl) ?_; go_big_quiet_on))
    refine wpQuiet_nil ?_
    refine wpMix_nil ?_
    clear mk0 mk1 mn mH
    clear LS RC CMP M5 NB5 G5 hcf
    -- e7 the error, s7 flash, j7 journal, X7 the journal's blocks, G7 the ledger, NB7 the next state's block, M7 its bytes; KE2: keepF
    by_cases q0 : e7 = 0
    · have d0 : (e7 == 0) = true := by simpa using q0
      rw [if_pos q0] at KE2
      have SO5 := Lib.hid G7.out.inv.ok
      go_wp2_with (first | (refine wpList_load_blk (b := nb) (o := 0) (ds := NX.cs A3 n3 c3) NB7.out (fun j v hv => by rw [Nat.zero_add]; exact hv) rfl rfl rfl Try.underlying39 rfl (by rw [St.cs_len NO.out]; exact st_size) ?_) | (refine wpList_store_blk (b := lb) (o := 1) (ds := NX.cs A3 n3 c3) G7.out.l (by show _ ≤ (St.cs _ _ _ _).length + 1; rw [St.cs_len NO.out, St.cs_len SO5.out]; decide) (St.cs_one _ _ _ _) rfl rfl rfl rfl (by rw [St.cs_len NO.out]; exact st_size) ?_))
      intro w9 b9 k9
      rw [lcs_put SO5.out NO.out] at b9
      have GF : Hid (LG W w9 B q lb jb X7 s7 j7 NX A3 n3 c3) := ⟨G7.out.lj.keepsG k9 (fun b hS e => G7.out.lS (by rw [← e]; exact hS)) (fun b hb e => by have h1 := G7.out.lB; have h2 := G7.out.lj.le; omega), b9, G7.out.lS, G7.out.lB, (M7.out.keeps k9 (fun b hb e => hb.2.2.1 e)).mono (fun b hb => ⟨hb.1, hb.2.1, hb.2.2.1⟩), NI.out⟩
      have TF := Lib.hid (T7.out.store k9)
      clear b9 k9
      go_wp2
      go_ret
      rw [KE2.out]
      exact ⟨by show _ = Ending.returned (.int .i64 e7); rw [q0]; rfl, X7, A3, n3, c3, GF.out, TF.out⟩
    · have d0 : (e7 == 0) = false := by simpa using q0
      rw [if_neg q0] at KE2
      go_wp2
      go_ret
      rw [KE2.out]
      exact ⟨rfl, X7, A, n, cap, G7.out, T7.out⟩
  · have d14 : (e5 == 14) = false := by simpa using q14
    rw [if_neg q14] at KE
    have KE2 : Hid (keepF s j st kind body = (s5, j5, (if e5 = 0 then NX else st), e5)) := KE.out
    clear KE
    -- e5 the error, s5 flash, j5 journal, X5 the journal's blocks, G5 the ledger, NB5 the next state's block, M5 its bytes; KE2: keepF
    by_cases q0 : e5 = 0
    · have d0 : (e5 == 0) = true := by simpa using q0
      rw [if_pos q0] at KE2
      have SO5 := Lib.hid G5.out.inv.ok
      go_wp2_with (first | (refine wpList_load_blk (b := nb) (o := 0) (ds := NX.cs A3 n3 c3) NB5.out (fun j v hv => by rw [Nat.zero_add]; exact hv) rfl rfl rfl Try.underlying39 rfl (by rw [St.cs_len NO.out]; exact st_size) ?_) | (refine wpList_store_blk (b := lb) (o := 1) (ds := NX.cs A3 n3 c3) G5.out.l (by show _ ≤ (St.cs _ _ _ _).length + 1; rw [St.cs_len NO.out, St.cs_len SO5.out]; decide) (St.cs_one _ _ _ _) rfl rfl rfl rfl (by rw [St.cs_len NO.out]; exact st_size) ?_))
      intro w9 b9 k9
      rw [lcs_put SO5.out NO.out] at b9
      have GF : Hid (LG W w9 B q lb jb X5 s5 j5 NX A3 n3 c3) := ⟨G5.out.lj.keepsG k9 (fun b hS e => G5.out.lS (by rw [← e]; exact hS)) (fun b hb e => by have h1 := G5.out.lB; have h2 := G5.out.lj.le; omega), b9, G5.out.lS, G5.out.lB, (M5.out.keeps k9 (fun b hb e => hb.2.2.1 e)).mono (fun b hb => ⟨hb.1, hb.2.1, hb.2.2.1⟩), NI.out⟩
      have TF := Lib.hid (T5.out.store k9)
      clear b9 k9
      go_wp2
      go_ret
      rw [KE2.out]
      exact ⟨by show _ = Ending.returned (.int .i64 e5); rw [q0]; rfl, X5, A3, n3, c3, GF.out, TF.out⟩
    · have d0 : (e5 == 0) = false := by simpa using q0
      rw [if_neg q0] at KE2
      go_wp2
      go_ret
      rw [KE2.out]
      exact ⟨rfl, X5, A, n, cap, G5.out, T5.out⟩
end Go.Proofs.Ytfldgaiiniknpaa
