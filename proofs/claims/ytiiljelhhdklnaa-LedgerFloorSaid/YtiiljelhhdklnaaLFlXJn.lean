
/- Rows of records in memory; the journal in plain words and in memory. -/
import Derived.Test.YtiiljelhhdklnaaLFlXRgLaw
import Derived.Test.YtiiljelhhdklnaaLFlXSR3
import Derived.Test.YtiiljelhhdklnaaLFlb
namespace Go.Proofs.Ytiiljelhhdklnaa
open Go.RowKit

/-- A record in plain words. -/
structure Rec where
  k : Int
  s : Int
  b : List Int
/-- A record as it lies. -/
structure RV where
  k : Int
  s : Int
  A : Option Addr
  c : Nat
  b : List Int
def RV.v (r : RV) : Value := .slice r.A r.b.length r.c
def RV.r (r : RV) : Rec := ⟨r.k, r.s, r.b⟩
def RV.at_ (r : RV) (b : Nat) : Prop := ∃ off, 0 < r.b.length ∧ r.A = some ⟨b, off, none⟩
def rcell (r : RV) : List Value := [.int .i64 r.k, .int .i64 r.s, r.v]
def rcells : List RV → List Value
  | [] => []
  | t :: ts => rcell t ++ rcells ts
theorem rcells_append (xs ys : List RV) : rcells (xs ++ ys) = rcells xs ++ rcells ys := by
  induction xs with
  | nil => rfl
  | cons t xs ih => simp [rcells, ih]
theorem rcells_length (ts : List RV) : (rcells ts).length = ts.length * 3 := by
  induction ts with
  | nil => rfl
  | cons t ts ih => simp [rcells, rcell, ih]; omega
theorem rcells_get (ts : List RV) (k : Nat) (t : RV) (h : ts[k]? = some t) (j : Nat) (hj : j < 3) : (rcells ts)[k * 3 + j]? = (rcell t)[j]? := by
  induction ts generalizing k with
  | nil => simp at h
  | cons s ts ih =>
    cases k with
    | zero =>
      obtain rfl : s = t := by simpa using h
      simp only [rcells, Nat.zero_mul, Nat.zero_add]
      rw [List.getElem?_append_left (by simp [rcell]; omega)]
    | succ k =>
      simp only [rcells]
      rw [List.getElem?_append_right (by simp [rcell]; omega)]
      have e : (k + 1) * 3 + j - (rcell s).length = k * 3 + j := by simp [rcell]; omega
      rw [e]
      exact ih k (by simpa using h)
/-- A slice that reads as records (their bodies apart). -/
structure Rws (w : World) (A : Option Addr) (n cap : Nat) (rs : List RV) : Prop where
  len : rs.length = n
  le : n ≤ cap
  max : cap ≤ 9223372036854775807
  nil : A = none → n = 0 ∧ cap = 0
  at_ : 0 < n → ∃ b off, A = some ⟨b, off, none⟩ ∧ b < w.heap.size ∧ ∀ k r, rs[k]? = some r → w.cell? ⟨b, off + k * 3, none⟩ = some (.int .i64 r.k) ∧ w.cell? ⟨b, off + k * 3 + 1, none⟩ = some (.int .i64 r.s) ∧ w.cell? ⟨b, off + k * 3 + 2, none⟩ = some r.v
theorem Rws.keeps {w w' : World} {A : Option Addr} {n cap : Nat} {rs : List RV} {S : Nat → Prop} (h : Rws w A n cap rs) (hk : Keeps S w w') (hS : ∀ b off, 0 < n → b < w.heap.size → A = some ⟨b, off, none⟩ → ¬ S b) : Rws w' A n cap rs :=
  ⟨h.len, h.le, h.max, h.nil, fun hn => by
    obtain ⟨b, off, e, hb, hc⟩ := h.at_ hn
    have hb' := hS b off hn hb e
    exact ⟨b, off, e, Nat.lt_of_lt_of_le hb hk.size, fun k r hr => by
      obtain ⟨h0, h1, h2⟩ := hc k r hr
      exact ⟨(hk.cell hb hb').trans h0, (hk.cell hb hb').trans h1, (hk.cell hb hb').trans h2⟩⟩⟩
theorem Rws.later {w w' : World} {A : Option Addr} {n cap : Nat} {rs : List RV} (h : Rws w A n cap rs) (hk : Keeps None w w') : Rws w' A n cap rs := h.keeps hk (fun _ _ _ _ _ h => h)
/-- A row of records of the call's own, from block B on. -/
def OwnR (w : World) (B : Nat) (v : Value) (rs : List RV) : Prop := w.ownsRow B 42 3 v rs.length (rcells rs)
theorem OwnR.nil (w : World) (B : Nat) : OwnR w B (.slice none 0 0) [] := World.ownsRow_nil _ _ _ _
theorem OwnR.keeps {w w' : World} {B : Nat} {v : Value} {rs : List RV} {S : Nat → Prop} (h : OwnR w B v rs) (hk : Keeps S w w') (hS : ∀ b, v.ownBlock = some b → ¬ S b) : OwnR w' B v rs := by
  refine ⟨h.1, ?_⟩
  rcases h.2 with hn | ⟨g, cap, cur, rfl, hb, hg, rest⟩
  · exact .inl hn
  · refine .inr ⟨g, cap, cur, rfl, hb, ?_, rest⟩
    rw [hk.block g (Array.getElem?_eq_some_iff.1 hg).1 (hS g rfl)]; exact hg
theorem OwnR.later {w w' : World} {B : Nat} {v : Value} {rs : List RV} (h : OwnR w B v rs) (hk : Keeps None w w') : OwnR w' B v rs := h.keeps hk (fun _ _ h => h)
theorem OwnR.block {w : World} {B : Nat} {v : Value} {rs : List RV} (h : OwnR w B v rs) {b : Nat} (hb : v.ownBlock = some b) : B ≤ b ∧ b < w.heap.size := by
  rcases h.2 with ⟨rfl, _⟩ | ⟨g, cap, cur, rfl, hg, hgg, _⟩
  · cases hb
  · obtain rfl : g = b := by simpa [Value.ownBlock] using hb
    exact ⟨hg, (Array.getElem?_eq_some_iff.1 hgg).1⟩
theorem OwnR.lower {w : World} {B B' : Nat} {v : Value} {rs : List RV} (h : OwnR w B v rs) (hB : B' ≤ B) : OwnR w B' v rs := by
  refine ⟨h.1, ?_⟩
  rcases h.2 with hn | ⟨g, cap, cur, rfl, hb, rest⟩
  · exact .inl hn
  · exact .inr ⟨g, cap, cur, rfl, Nat.le_trans hB hb, rest⟩
/-- What a row of one's own is. -/
theorem OwnR.shape {w : World} {B : Nat} {v : Value} {rs : List RV} (h : OwnR w B v rs) : ∃ A cap, v = .slice A rs.length cap ∧ Rws w A rs.length cap rs ∧ (∀ b off, A = some ⟨b, off, none⟩ → v.ownBlock = some b ∧ off = 0) := by
  obtain ⟨h1, h2⟩ := h
  rcases h2 with ⟨rfl, hz⟩ | ⟨g, cap, cur, rfl, hg, hgg, hc1, hc2, hlen, htk⟩
  · have : rs = [] := by cases rs with
      | nil => rfl
      | cons t ts => simp at hz
    subst this
    exact ⟨none, 0, rfl, ⟨rfl, Nat.le_refl _, by decide, fun _ => ⟨rfl, rfl⟩, fun h => absurd h (Nat.lt_irrefl _)⟩, fun b off e => by cases e⟩
  · refine ⟨some ⟨g, 0, none⟩, cap, rfl, ⟨rfl, hc1, ?_, (fun e => by cases e), fun hn => ⟨g, 0, rfl, (Array.getElem?_eq_some_iff.1 hgg).1, fun k r hr => ?_⟩⟩, fun b off e => by cases e; exact ⟨rfl, rfl⟩⟩
    · have : maxLen = 9223372036854775807 := rfl
      omega
    · have hk : k < rs.length := (List.getElem?_eq_some_iff.1 hr).1
      have get : ∀ j, j < 3 → w.cell? ⟨g, 0 + k * 3 + j, none⟩ = (rcell r)[j]? := fun j hj => by
        rw [← rcells_get rs k r hr j hj, ← htk]
        rw [List.getElem?_take_of_lt (by omega)]
        simp [World.cell?, hgg]
      exact ⟨get 0 (by decide), get 1 (by decide), get 2 (by decide)⟩
theorem Try.infoRw42 : (Try.prog.info? 42).map (fun i => (i.zero, i.size, i.bytes)) = some (some (.agg #[.int .i64 0, .int .i64 0, .slice none 0 0]), 3, 40) := by kernel_rfl
set_option maxRecDepth 100000 in
theorem rcells_flat (ns : List RV) : ∀ u ∈ rcells ns, u.oneCell' = true := by
  intro u hu
  induction ns with
  | nil => simp [rcells] at hu
  | cons t ns ih =>
    simp only [rcells, List.mem_append] at hu
    rcases hu with hu | hu
    · simp [rcell, RV.v] at hu; rcases hu with rfl | rfl | rfl <;> rfl
    · exact ih hu
set_option maxRecDepth 100000 in
theorem run_append_recs {w : World} {B : Nat} {v : Value} {rs ns : List RV} {A : Option Addr} {m c : Nat} (hown : OwnR w B v rs) (hs : Rws w A m c ns) (hlen : rs.length + m ≤ 1000000) (hB : B ≤ w.heap.size) :
    ∃ v' w', (Builtin.append_ #[22, 22] 22 #[v, .slice A m c]).run Try.prog w = .ok v' w' ∧ OwnR w' B v' (rs ++ ns) ∧ Keeps (fun k => v.ownBlock = some k) w w' ∧ (v'.ownBlock = v.ownBlock ∨ v'.ownBlock = some w.heap.size) := by
  obtain ⟨i, hi, hz0, hz1, hz2⟩ := info_parts Try.infoRw42
  have hnl := hs.len
  cases A with
  | none =>
    obtain ⟨rfl, rfl⟩ := hs.nil rfl
    have e : ns = [] := List.eq_nil_of_length_eq_zero hs.len
    subst e
    exact ⟨v, w, run_append_owned_none (P := Try.prog) w B 22 22 42 i 3 Try.underlying22 hi v _ _ hown, by rw [List.append_nil]; exact hown, Keeps.refl _ _, .inl rfl⟩
  | some a =>
    have hcells : ∀ j u, (rcells ns)[j]? = some u → w.cell? (a.add j) = some u := by
      intro j u hu
      have hj : j < (rcells ns).length := (List.getElem?_eq_some_iff.1 hu).1
      rw [rcells_length] at hj
      obtain ⟨k, r, rfl, hr⟩ : ∃ k r, j = k * 3 + r ∧ r < 3 := ⟨j / 3, j % 3, by omega, by omega⟩
      have hk : k < ns.length := by omega
      obtain ⟨b, off, e, _, hc⟩ := hs.at_ (by omega)
      cases e
      have e2 : (⟨b, off, none⟩ : Addr).add (k * 3 + r) = ⟨b, off + (k * 3 + r), none⟩ := by unfold Addr.add; split <;> simp_all
      rw [e2, ← hu, rcells_get ns k ns[k] (List.getElem?_eq_getElem hk) r hr]
      obtain ⟨c0, c1, c2⟩ := hc k ns[k] (List.getElem?_eq_getElem hk)
      obtain rfl | rfl | rfl : r = 0 ∨ r = 1 ∨ r = 2 := by omega
      · exact c0
      · rw [← Nat.add_assoc]; exact c1
      · rw [← Nat.add_assoc]; exact c2
    obtain ⟨v', w', hr, ho, hg, -, hat⟩ := run_append_own_at (P := Try.prog) w B 22 22 42 i (.agg #[.int .i64 0, .int .i64 0, .slice none 0 0]) 3 40 Try.underlying22 hi hz0 hz1 hz2 rfl (by decide) v rs.length (rcells rs) hown a m c (rcells ns) (by rw [rcells_length, hnl]) hcells
      (rcells_flat ns) (by unfold maxLen; omega) (by omega) hB
    refine ⟨v', w', hr, ?_, (Keeps.refl _ w).grown hg (fun k hk _ => hk), hat⟩
    unfold OwnR
    rw [List.length_append, rcells_append, hnl]
    exact ho
theorem wpList_append_recs {ops : Array Oper} {rest : List Oper} {o : Oper} {a : Act} {Q : Exit → Act → World → Prop} {s x : Operand} {w : World} {B : Nat} {v : Value} {rs ns : List RV} {A : Option Addr} {m c : Nat}
    (hown : OwnR w B v rs) (hs : Rws w A m c ns) (hlen : rs.length + m ≤ 1000000) (hB : B ≤ w.heap.size) (hg : o.guard = none) (hty : o.type = 22) (ho : o.op = .call { callee := .builtin .append, args := #[s, x], argTypes := #[22, 22] }) (h1 : a.eval s = v) (h2 : a.eval x = .slice A m c)
    (h : ∀ v' w', OwnR w' B v' (rs ++ ns) → Keeps (fun k => v.ownBlock = some k) w w' → (v'.ownBlock = v.ownBlock ∨ v'.ownBlock = some w.heap.size) → wpList Try.prog ops Q rest (a.put o.dst v') w') : wpList Try.prog ops Q (o :: rest) a w := by
  obtain ⟨v', w', hr, h3, h4, h5⟩ := run_append_recs hown hs hlen hB
  exact wpList_append_run hr hg hty ho h1 h2 (h v' w' h3 h4 h5)
/-- A literal of one record. -/
theorem Rws.one {w : World} {g : Nat} {T : TypeId} (r : RV) (h : Blk w g (rcell r) T) : Rws w (some ⟨g, 0, none⟩) 1 1 [r] :=
  ⟨rfl, Nat.le_refl _, by decide, (fun e => by cases e), fun _ => ⟨g, 0, rfl, h.lt, fun k x hx => by
    cases k with
    | zero =>
      obtain rfl : r = x := by simpa using hx
      exact ⟨h.cellD 0 _ rfl, h.cellD 1 _ rfl, h.cellD 2 _ rfl⟩
    | succ k => simp at hx⟩⟩
/-- The bodies of records, each where P holds. -/
structure Bds (w : World) (P : Nat → Prop) (rs : List RV) : Prop where
  bs : ∀ r ∈ rs, Bs w r.A r.b.length r.c r.b
  p : ∀ r ∈ rs, ∀ b, r.at_ b → P b ∧ b < w.heap.size
theorem Bds.nil (w : World) (P : Nat → Prop) : Bds w P [] := ⟨by simp, by simp⟩
theorem Bds.keeps {w w' : World} {P S : Nat → Prop} {rs : List RV} (h : Bds w P rs) (hk : Keeps S w w') (hS : ∀ b, P b → b < w.heap.size → ¬ S b) : Bds w' P rs :=
  ⟨fun r hr => (h.bs r hr).keeps hk (fun b off h0 _ e hb => by
    obtain ⟨hp, hl⟩ := h.p r hr b ⟨off, h0, e⟩
    exact hS b hp hl hb), fun r hr b hb => ⟨(h.p r hr b hb).1, Nat.lt_of_lt_of_le (h.p r hr b hb).2 hk.size⟩⟩
theorem Bds.later {w w' : World} {P : Nat → Prop} {rs : List RV} (h : Bds w P rs) (hk : Keeps None w w') : Bds w' P rs := h.keeps hk (fun _ _ _ h => h)
theorem Bds.mono {w : World} {P Q : Nat → Prop} {rs : List RV} (h : Bds w P rs) (hQ : ∀ b, P b → b < w.heap.size → Q b) : Bds w Q rs :=
  ⟨h.bs, fun r hr b hb => ⟨hQ b (h.p r hr b hb).1 (h.p r hr b hb).2, (h.p r hr b hb).2⟩⟩
theorem Bds.append {w : World} {P : Nat → Prop} {xs ys : List RV} (h : Bds w P xs) (k : Bds w P ys) : Bds w P (xs ++ ys) :=
  ⟨fun r hr => (List.mem_append.1 hr).elim (h.bs r) (k.bs r), fun r hr => (List.mem_append.1 hr).elim (h.p r) (k.p r)⟩
theorem Bds.one {w : World} {P : Nat → Prop} {r : RV} (h : Bs w r.A r.b.length r.c r.b) (hp : ∀ b, r.at_ b → P b ∧ b < w.heap.size) : Bds w P [r] :=
  ⟨fun x hx => by obtain rfl := List.mem_singleton.1 hx; exact h, fun x hx => by obtain rfl := List.mem_singleton.1 hx; exact hp⟩
theorem Bds.of {w : World} {P : Nat → Prop} {rs : List RV} (h : Bds w P rs) : ∀ r, r ∈ rs → Bds w P [r] := fun r hr => Bds.one (h.bs r hr) (h.p r hr)

/-! ### The journal -/
structure JS where
  l : List Rec
  epoch : Nat
  cur : Int
  used : Nat
  torn : Bool
  err : Int
def jcells (q : Nat) (lv : Value) (j : JS) : List Value := [.pointer (some ⟨q, 0, none⟩), .int .i64 0, .int .i64 2, lv, .int .i64 (j.epoch : Int), .int .i64 j.cur, .int .i64 (j.used : Int), .bool j.torn, .int .i64 j.err]
/-- How it lies: the flash, the journal's block, its row of records. -/
structure JX where
  L : FL
  jb : Nat
  lv : Value
  rs : List RV
def JX.S (X : JX) (k : Nat) : Prop := X.L.O k ∨ k = X.jb ∨ X.lv.ownBlock = some k ∨ ∃ r ∈ X.rs, r.at_ k
structure JAt (w : World) (B q : Nat) (X : JX) (s : FS) (j : JS) : Prop where
  f : FAt w B X.L s
  hq : X.L.bf = q
  c : Blk w X.jb (jcells q X.lv j) 99
  l : OwnR w B X.lv X.rs
  bd : Bds w (fun b => B ≤ b ∧ ¬ X.L.O b ∧ b ≠ X.jb ∧ ¬ X.lv.ownBlock = some b) X.rs
  recs : X.rs.map RV.r = j.l
  jo : ¬ X.L.O X.jb
  jB : B ≤ X.jb
  lo : ∀ b, X.lv.ownBlock = some b → ¬ X.L.O b ∧ b ≠ X.jb
theorem JAt.keeps {w w' : World} {B q : Nat} {X : JX} {s : FS} {j : JS} {S : Nat → Prop} (h : JAt w B q X s j) (hk : Keeps S w w') (hS : ∀ k, X.S k → ¬ S k) : JAt w' B q X s j :=
  ⟨h.f.keeps hk (fun k hO => hS k (.inl hO)), h.hq, hk.blk h.c (hS _ (.inr (.inl rfl))), h.l.keeps hk (fun b hb => hS b (.inr (.inr (.inl hb)))),
    ⟨fun r hr => (h.bd.bs r hr).keeps hk (fun b off h0 _ e hb => hS b (.inr (.inr (.inr ⟨r, hr, off, h0, e⟩))) hb), fun r hr b hb => ⟨(h.bd.p r hr b hb).1, Nat.lt_of_lt_of_le (h.bd.p r hr b hb).2 hk.size⟩⟩, h.recs, h.jo, h.jB, h.lo⟩
theorem JAt.later {w w' : World} {B q : Nat} {X : JX} {s : FS} {j : JS} (h : JAt w B q X s j) (hk : Keeps None w w') : JAt w' B q X s j := h.keeps hk (fun _ _ h => h)
theorem JAt.lt {w : World} {B q : Nat} {X : JX} {s : FS} {j : JS} (h : JAt w B q X s j) : ∀ k, X.S k → k < w.heap.size := fun k hk => by
  rcases hk with hk | rfl | hk | ⟨r, hr, hb⟩
  · exact h.f.lt k hk
  · exact h.c.lt
  · exact (h.l.block hk).2
  · exact (h.bd.p r hr k hb).2
theorem JAt.low {w : World} {B q : Nat} {X : JX} {s : FS} {j : JS} (h : JAt w B q X s j) : ∀ k, X.S k → B ≤ k := fun k hk => by
  rcases hk with hk | rfl | hk | ⟨r, hr, hb⟩
  · exact h.f.low k hk
  · exact h.jB
  · exact (h.l.block hk).1
  · exact (h.bd.p r hr k hb).1.1
/-- What a call on a journal leaves. -/
structure JTurn (w w' : World) (B q : Nat) (X X' : JX) (s' : FS) (j' : JS) : Prop where
  at_ : JAt w' B q X' s' j'
  keeps : Keeps X.S w w'
  o : ∀ k, X'.S k → X.S k ∨ w.heap.size ≤ k
  jb : X'.jb = X.jb
/-- The flash alone went on. -/
theorem JAt.turn {w w' : World} {B q : Nat} {X : JX} {s s' : FS} {j : JS} {L' : FL} (h : JAt w B q X s j) (t : Turn w w' B X.L L' s') : JTurn w w' B q X { X with L := L' } s' j := by
  have out : ∀ k, k < w.heap.size → ¬ X.L.O k → ¬ L'.O k := fun k hk hn h' => (t.o k h').elim hn (fun h2 => by omega)
  refine ⟨⟨t.at_, t.bf.trans h.hq, t.keeps.blk h.c h.jo, h.l.keeps t.keeps (fun b hb => (h.lo b hb).1), ⟨fun r hr => (h.bd.bs r hr).keeps t.keeps (fun b off h0 _ e hb => (h.bd.p r hr b ⟨off, h0, e⟩).1.2.1 hb), fun r hr b hb => ?_⟩, h.recs, out _ h.c.lt h.jo, h.jB, fun b hb => ⟨out b (h.l.block hb).2 (h.lo b hb).1, (h.lo b hb).2⟩⟩, t.keeps.mono (fun k _ hk => .inl hk), fun k hk => ?_, rfl⟩
  · obtain ⟨⟨p1, p2, p3, p4⟩, p5⟩ := h.bd.p r hr b hb
    exact ⟨⟨p1, out b p5 p2, p3, p4⟩, Nat.lt_of_lt_of_le p5 t.keeps.size⟩
  · rcases hk with hk | hk
    · exact (t.o k hk).imp .inl id
    · exact .inl (.inr hk)
theorem JTurn.self {w : World} {B q : Nat} {X : JX} {s : FS} {j : JS} (h : JAt w B q X s j) : JTurn w w B q X X s j := ⟨h, Keeps.refl _ _, fun _ h => .inl h, rfl⟩
theorem JTurn.still {w w1 : World} {B q : Nat} {X : JX} {s : FS} {j : JS} (h : JAt w B q X s j) (k : Keeps None w w1) : JTurn w w1 B q X X s j := ⟨h.later k, k.mono (fun _ _ h => h.elim), fun _ h => .inl h, rfl⟩
theorem JTurn.from {w w1 w' : World} {B q : Nat} {X X' : JX} {s' : FS} {j' : JS} (k : Keeps None w w1) (t : JTurn w1 w' B q X X' s' j') : JTurn w w' B q X X' s' j' :=
  ⟨t.at_, k.trans t.keeps (fun _ h => h.elim) (fun _ _ h => h), fun x hx => (t.o x hx).imp id (fun h => Nat.le_trans k.size h), t.jb⟩
theorem JTurn.later {w w1 w' : World} {B q : Nat} {X X' : JX} {s' : FS} {j' : JS} (t : JTurn w w1 B q X X' s' j') (k : Keeps None w1 w') : JTurn w w' B q X X' s' j' :=
  ⟨t.at_.later k, t.keeps.trans k (fun _ h => h) (fun _ _ h => h.elim), t.o, t.jb⟩
theorem JTurn.trans {w w1 w' : World} {B q : Nat} {X X1 X' : JX} {s1 s' : FS} {j1 j' : JS} (t : JTurn w w1 B q X X1 s1 j1) (u : JTurn w1 w' B q X1 X' s' j') : JTurn w w' B q X X' s' j' :=
  ⟨u.at_, t.keeps.trans u.keeps (fun _ h => h) (fun k hk h => (t.o k h).elim id (fun h2 => by omega)), fun x hx => (u.o x hx).elim (fun h => t.o x h) (fun h => .inr (Nat.le_trans t.keeps.size h)), u.jb.trans t.jb⟩
/-- As JTurn, where the flash stays as it was. -/
structure JStay (w w' : World) (B q : Nat) (X X' : JX) (s' : FS) (j' : JS) : Prop where
  t : JTurn w w' B q X X' s' j'
  l : X'.L = X.L
  k : Keeps (fun b => X.S b ∧ ¬ X.L.O b) w w'
theorem JStay.at_ {w w' : World} {B q : Nat} {X X' : JX} {s' : FS} {j' : JS} (h : JStay w w' B q X X' s' j') : JAt w' B q X' s' j' := h.t.at_
theorem JStay.keeps {w w' : World} {B q : Nat} {X X' : JX} {s' : FS} {j' : JS} (h : JStay w w' B q X X' s' j') : Keeps X.S w w' := h.t.keeps
theorem JStay.o {w w' : World} {B q : Nat} {X X' : JX} {s' : FS} {j' : JS} (h : JStay w w' B q X X' s' j') : ∀ k, X'.S k → X.S k ∨ w.heap.size ≤ k := h.t.o
theorem JStay.jb {w w' : World} {B q : Nat} {X X' : JX} {s' : FS} {j' : JS} (h : JStay w w' B q X X' s' j') : X'.jb = X.jb := h.t.jb
theorem JStay.self {w : World} {B q : Nat} {X : JX} {s : FS} {j : JS} (h : JAt w B q X s j) : JStay w w B q X X s j := ⟨JTurn.self h, rfl, Keeps.refl _ _⟩
theorem JStay.later {w w1 w' : World} {B q : Nat} {X X' : JX} {s' : FS} {j' : JS} (t : JStay w w1 B q X X' s' j') (k : Keeps None w1 w') : JStay w w' B q X X' s' j' :=
  ⟨t.t.later k, t.l, t.k.trans k (fun _ h => h) (fun _ _ h => h.elim)⟩
theorem JStay.from {w w1 w' : World} {B q : Nat} {X X' : JX} {s' : FS} {j' : JS} (k : Keeps None w w1) (t : JStay w1 w' B q X X' s' j') : JStay w w' B q X X' s' j' :=
  ⟨JTurn.from k t.t, t.l, k.trans t.k (fun _ h => h.elim) (fun _ _ h => h)⟩
theorem JStay.trans {w w1 w' : World} {B q : Nat} {X X1 X' : JX} {s1 s' : FS} {j1 j' : JS} (t : JStay w w1 B q X X1 s1 j1) (u : JStay w1 w' B q X1 X' s' j') : JStay w w' B q X X' s' j' :=
  ⟨t.t.trans u.t, u.l.trans t.l, t.k.trans u.k (fun _ h => h) (fun k hk h => ⟨(t.o k h.1).elim id (fun h2 => by omega), by rw [← t.l]; exact h.2⟩)⟩
/-- A cell of the journal's own block is put. -/
theorem JAt.put {w : World} {B q : Nat} {X : JX} {s : FS} {j j' : JS} (h : JAt w B q X s j) (i : Nat) (x : Value) (e : jcells q X.lv j' = (jcells q X.lv j).set i x) (el : j'.l = j.l) : JStay w (w.setCell ⟨X.jb, i, none⟩ x) B q X X s j' := by
  have ks := (Keeps.self X.jb w).put i x
  refine ⟨⟨⟨h.f.keeps ks (fun k hO (e : k = X.jb) => h.jo (e ▸ hO)), h.hq, by rw [e]; exact h.c.set i x, h.l.keeps ks (fun b hb => (h.lo b hb).2), ⟨fun r hr => (h.bd.bs r hr).keeps ks (fun b off h0 _ e => (h.bd.p r hr b ⟨off, h0, e⟩).1.2.2.1), fun r hr b hb => ⟨(h.bd.p r hr b hb).1, Nat.lt_of_lt_of_le (h.bd.p r hr b hb).2 ks.size⟩⟩, by rw [el]; exact h.recs, h.jo, h.jB, h.lo⟩, ks.mono (fun k _ hk => .inr (.inl hk)), fun k hk => .inl hk, rfl⟩, rfl, ks.mono (fun k _ (hk : k = X.jb) => by rw [hk]; exact ⟨.inr (.inl rfl), h.jo⟩)⟩
end Go.Proofs.Ytiiljelhhdklnaa
