/- The walk of squeeze.Tokens: the tokens of bytes, each the best at its place. -/
import Derived.Test.YtggjdkkobhefeaaSq
import Derived.Test.YtggjdkkobhefeaaInit
namespace Go.Proofs.Ytggjdkkobhefeaa
open Go.RowKit

/-- A token: how many, from how far, the byte. -/
structure Tok where
  n : Int
  d : Int
  b : Int
def tcell (t : Tok) : List Value := [.int .i64 t.n, .int .i64 t.d, .int .u8 t.b]
def tcells : List Tok → List Value
  | [] => []
  | t :: ts => tcell t ++ tcells ts
theorem tcells_append (xs ys : List Tok) : tcells (xs ++ ys) = tcells xs ++ tcells ys := by
  induction xs with
  | nil => rfl
  | cons t xs ih => simp [tcells, ih]
theorem tcells_length (ts : List Tok) : (tcells ts).length = ts.length * 3 := by
  induction ts with
  | nil => rfl
  | cons t ts ih => simp [tcells, tcell, ih]; omega
theorem tcells_get (ts : List Tok) (k : Nat) (t : Tok) (h : ts[k]? = some t) (j : Nat) (hj : j < 3) : (tcells ts)[k * 3 + j]? = (tcell t)[j]? := by
  induction ts generalizing k with
  | nil => simp at h
  | cons s ts ih =>
    cases k with
    | zero =>
      obtain rfl : s = t := by simpa using h
      simp only [tcells, Nat.zero_mul, Nat.zero_add]
      rw [List.getElem?_append_left (by simp [tcell]; omega)]
    | succ k =>
      simp only [tcells]
      rw [List.getElem?_append_right (by simp [tcell]; omega)]
      have e : (k + 1) * 3 + j - (tcell s).length = k * 3 + j := by simp [tcell]; omega
      rw [e]
      exact ih k (by simpa using h)
/-- A slice of tokens of the call's own, from block B on. -/
def OwnT (w : World) (B : Nat) (v : Value) (ts : List Tok) : Prop := w.ownsRow B 43 3 v ts.length (tcells ts)
theorem OwnT.nil (w : World) (B : Nat) : OwnT w B (.slice none 0 0) [] := World.ownsRow_nil _ _ _ _
theorem OwnT.keeps {w w' : World} {B : Nat} {v : Value} {ts : List Tok} {S : Nat → Prop} (h : OwnT w B v ts) (hk : Keeps S w w') (hS : ∀ b, v.ownBlock = some b → ¬ S b) : OwnT w' B v ts := by
  refine ⟨h.1, ?_⟩
  rcases h.2 with hn | ⟨g, cap, cur, rfl, hb, hg, rest⟩
  · exact .inl hn
  · refine .inr ⟨g, cap, cur, rfl, hb, ?_, rest⟩
    rw [hk.block g (Array.getElem?_eq_some_iff.1 hg).1 (hS g rfl)]; exact hg
theorem OwnT.block {w : World} {B : Nat} {v : Value} {ts : List Tok} (h : OwnT w B v ts) {b : Nat} (hb : v.ownBlock = some b) : B ≤ b ∧ b < w.heap.size := by
  rcases h.2 with ⟨rfl, _⟩ | ⟨g, cap, cur, rfl, hg, hgg, _⟩
  · cases hb
  · obtain rfl : g = b := by simpa [Value.ownBlock] using hb
    exact ⟨hg, (Array.getElem?_eq_some_iff.1 hgg).1⟩
theorem Try.info43 : (Try.prog.info? 43).map (fun i => (i.zero, i.size, i.bytes)) = some (some (.agg #[.int .i64 0, .int .i64 0, .int .u8 0]), 3, 24) := by kernel_rfl
theorem run_append_tok {w : World} {B : Nat} {v : Value} {ts : List Tok} (t : Tok) (a : Addr) (hown : OwnT w B v ts) (hc : ∀ j u, (tcell t)[j]? = some u → w.cell? (a.add j) = some u) (hlen : ts.length ≤ 1000000) (hB : B ≤ w.heap.size) :
    ∃ v' w', (Builtin.append_ #[49, 49] 49 #[v, .slice (some a) 1 1]).run Try.prog w = .ok v' w' ∧ OwnT w' B v' (ts ++ [t]) ∧ Keeps (fun k => v.ownBlock = some k) w w' := by
  obtain ⟨i, hi, hz0, hz1, hz2⟩ := info_parts Try.info43
  obtain ⟨v', w', hr, ho, hg, _⟩ := run_append_own (P := Try.prog) w B 49 49 43 i (.agg #[.int .i64 0, .int .i64 0, .int .u8 0]) 3 24 Try.underlying49 hi hz0 hz1 hz2 rfl (by decide) v ts.length (tcells ts) hown a 1 1 (tcell t) rfl hc
    (by intro u hu; simp [tcell] at hu; rcases hu with rfl | rfl | rfl <;> rfl) (by unfold maxLen; omega) (by omega) hB
  refine ⟨v', w', hr, ?_, (Keeps.refl _ w).grown hg (fun k hk _ => hk)⟩
  unfold OwnT
  rw [List.length_append, tcells_append]
  simpa [tcells] using ho

theorem wpList_append_tok {ops : Array Oper} {rest : List Oper} {o : Oper} {a : Act} {Q : Exit → Act → World → Prop} {s x : Operand} {w : World} {B g : Nat} {v : Value} {ts : List Tok} {T : TypeId} (t : Tok)
    (hown : OwnT w B v ts) (hc : Blk w g (tcell t) T) (hlen : ts.length ≤ 1000000) (hB : B ≤ w.heap.size) (hg : o.guard = none) (hty : o.type = 49) (ho : o.op = .call { callee := .builtin .append, args := #[s, x], argTypes := #[49, 49] }) (h1 : a.eval s = v) (h2 : a.eval x = .slice (some ⟨g, 0, none⟩) 1 1)
    (h : ∀ v' w', OwnT w' B v' (ts ++ [t]) → Keeps (fun k => v.ownBlock = some k) w w' → wpList Try.prog ops Q rest (a.put o.dst v') w') : wpList Try.prog ops Q (o :: rest) a w := by
  obtain ⟨v', w', hr, h3, h4⟩ := run_append_tok t ⟨g, 0, none⟩ hown (fun j u hu => by
    have e2 : (⟨g, 0, none⟩ : Addr).add j = ⟨g, j, none⟩ := by unfold Addr.add; split <;> simp_all
    rw [e2]; exact hc.cellD j u hu) hlen hB
  exact wpList_append_run hr hg hty ho h1 h2 (h v' w' h3 h4)

/-- The tokens so far, and the place. -/
inductive TokTo (zs : List Int) : List Tok → Nat → Prop
  | start : TokTo zs [] 0
  | step {ts : List Tok} {a n d : Nat} : TokTo zs ts a → a < zs.length → BestOf zs a n d → TokTo zs (ts ++ [if 0 < n then ⟨n, d, 0⟩ else ⟨0, 0, zs.getD a 0⟩]) (a + (if 0 < n then n else 1))
theorem TokTo.len {zs : List Int} {ts : List Tok} {a : Nat} (h : TokTo zs ts a) : ts.length ≤ a ∧ a ≤ zs.length := by
  induction h with
  | start => exact ⟨Nat.le_refl _, Nat.zero_le _⟩
  | step h hl hb ih =>
    have := hb.le
    simp only [List.length_append, List.length_singleton]
    split <;> omega

set_option maxRecDepth 100000 in
theorem tklong_any (n d b : Int) (w : World) : Calls Try.prog 68 #[.agg #[.int .i64 n, .int .i64 d, .int .u8 b]] w fun e w' => e = .returned (.int .i64 (if n = 0 then 1 else n)) ∧ Keeps None w w' := by
  by_cases h : n = 0
  · rw [if_pos h]
    subst h
    go_enter Try.func68, Try.ntmps68
    go_wp2
    go_ret
    exact ⟨rfl, (Keeps.refl _ _).alloc _⟩
  · rw [if_neg h]
    have hb : (n == 0) = false := by simpa using h
    go_enter Try.func68, Try.ntmps68
    go_wp2
    go_ret
    exact ⟨rfl, (Keeps.refl _ _).alloc _⟩

theorem Blk.newAt {X : World} {b : Nat} (h : X.heap.size = b) (c : List Value) (T : TypeId) : Blk (X.alloc (.cells c.toArray T)) b c T := by
  subst h; exact Blk.new _ _ _
set_option maxRecDepth 100000 in
set_option maxHeartbeats 1600000 in
theorem qtokens_any (A : Option Addr) (L cap : Nat) (zs : List Int) (w : World) (h : Bs w A L cap zs) (hL : L ≤ 8192) :
    Calls Try.prog 36 #[.slice A L cap] w fun e w' => ∃ v ts, e = .returned v ∧ TokTo zs ts L ∧ OwnT w' w.heap.size v ts ∧ Keeps None w w' := by
  have hle := h.le
  have hmax := h.max
  have HL := Lib.hid h.len
  have HB := Lib.hid h
  have g1 : decide (8192 < (L : Int)) = false := decide_eq_false (by omega)
  clear h
  go_enter Try.func36, Try.ntmps36
  go_wp2
  go_loopw [3, 4] (fun ov av wr => ∃ (a : Nat) (ts : List Tok), a ≤ L ∧ av = .int .i64 a ∧ TokTo zs ts a ∧ OwnT wr w.heap.size ov ts ∧ Keeps None w wr) (fun _ av _ => L - (intOf av).toNat)
  case atStart => exact ⟨0, [], Nat.zero_le _, rfl, TokTo.start, OwnT.nil _ _, Keeps.refl _ _⟩
  case round =>
    obtain ⟨a, ts, haL, rfl, hT, hO, hK⟩ := hrel
    by_cases hlt : a < L
    · obtain ⟨bl, of1, x1, rfl, hx1, hx1a, hx1b, hc1⟩ := (HB.out.keeps hK (fun _ _ _ _ _ h => h)).get hlt
      have HT := Lib.hid hT
      have HO := Lib.hid hO
      have HK := Lib.hid hK
      have HX := Lib.hid hx1
      clear hT hO hK hx1
      go_wp2_with fail
      refine (qbest_any _ _ _ zs a _ (HB.out.keeps (HK.out.alloc _) (fun _ _ _ _ _ h => h)) hlt).mono ?_
      rintro e w' ⟨n, d, rfl, hbest, k, rfl⟩
      have HBE := Lib.hid hbest
      have nle := hbest.le
      clear hbest
      have lenle := HT.out.len
      by_cases hn : 0 < n
      · have KB : Hid (Blk (((((wr.alloc (.cells #[.int .i64 0, .int .i64 0, .int .u8 x1] 43)).drewN k).setCell ⟨wr.heap.size, 0, none⟩ (.int .i64 n)).setCell ⟨wr.heap.size, 1, none⟩ (.int .i64 d)).setCell ⟨wr.heap.size, 2, none⟩ (.int .u8 0)) wr.heap.size (tcell ⟨n, d, 0⟩) 43) := ((((Blk.new wr [.int .i64 0, .int .i64 0, .int .u8 x1] 43).drewN k).set 0 _).set 1 _).set 2 _
        have KK : Hid (Keeps None wr (((((wr.alloc (.cells #[.int .i64 0, .int .i64 0, .int .u8 x1] 43)).drewN k).setCell ⟨wr.heap.size, 0, none⟩ (.int .i64 n)).setCell ⟨wr.heap.size, 1, none⟩ (.int .i64 d)).setCell ⟨wr.heap.size, 2, none⟩ (.int .u8 0))) := (((((Keeps.refl None wr).alloc _).drewN k).setCell _ _ (fun h => absurd h (Nat.lt_irrefl _))).setCell _ _ (fun h => absurd h (Nat.lt_irrefl _))).setCell _ _ (fun h => absurd h (Nat.lt_irrefl _))
        have ST : Hid (TokTo zs (ts ++ [⟨n, d, 0⟩]) (a + n)) := by
          have := TokTo.step HT.out (by rw [HL.out]; exact hlt) HBE.out
          rwa [if_pos hn, if_pos hn] at this
        have hnz : ((n : Int) == 0) = false := by simp; omega
        have LONG := Lib.hid (fun w => tklong_any n d 0 w)
        have e1 : (if (n : Int) = 0 then 1 else (n : Int)) = n := if_neg (by omega)
        rw [e1] at LONG
        clear e1
        go_wp2_with (at_builtin; refine Hid.out ?_)
        refine Lib.hid ?_
        refine wpList_append_tok (ts := ts) (B := w.heap.size) (T := 43) ⟨n, d, 0⟩ ((HO.out.keeps KK.out (fun _ _ h => h)).keeps ((Keeps.refl None _).alloc _) (fun _ _ h => h)) (Blk.newAt (b := wr.heap.size + 1) (by simp) (tcell ⟨n, d, 0⟩) 43) (by omega) (Nat.le_trans HK.out.size ((KK.out.alloc _).size)) rfl rfl rfl rfl rfl ?_
        intro v' w4 ho4 hk4
        have kb4 := hk4.blk (KB.out.alloc (.cells #[.int .i64 n, .int .i64 d, .int .u8 0] 43)) (fun h => Nat.lt_irrefl _ (HO.out.block h).2)
        have K4 := Lib.hid ((HK.out.trans (KK.out.alloc (.cells #[.int .i64 n, .int .i64 d, .int .u8 0] 43)) (T := None) (fun _ h => h) (fun _ _ h => h)).trans hk4 (T := None) (fun _ h => h) (fun i hi h => absurd (HO.out.block h).1 (by omega)))
        have c40 := kb4.cellD 0 _ rfl
        have c41 := kb4.cellD 1 _ rfl
        have c42 := kb4.cellD 2 _ rfl
        have HO4 := Lib.hid ho4
        clear kb4 hk4 ho4 KB KK HO HX HBE
        go_wp2_with fail
        refine (LONG.out _).mono ?_
        rintro e w5 ⟨rfl, k5⟩
        have HO5 := Lib.hid (HO4.out.keeps k5 (fun _ _ h => h))
        have K5 := Lib.hid (K4.out.trans k5 (T := None) (fun _ h => h) (fun _ _ h => h))
        clear k5 K4 HO4 LONG c40 c41 c42
        go_wp2
        go_roundw
        case rel => exact ⟨a + n, _, by have := HL.out; omega, by go_num, ST.out, HO5.out, K5.out⟩
        case measure => simp [intOf]; omega
      · obtain rfl : n = 0 := by omega
        have KB : Hid (Blk ((wr.alloc (.cells #[.int .i64 0, .int .i64 0, .int .u8 x1] 43)).drewN k) wr.heap.size (tcell ⟨0, 0, x1⟩) 43) := (Blk.new wr [.int .i64 0, .int .i64 0, .int .u8 x1] 43).drewN k
        have KK : Hid (Keeps None wr ((wr.alloc (.cells #[.int .i64 0, .int .i64 0, .int .u8 x1] 43)).drewN k)) := ((Keeps.refl None wr).alloc _).drewN k
        have ST : Hid (TokTo zs (ts ++ [⟨0, 0, x1⟩]) (a + 1)) := by
          have := TokTo.step HT.out (by rw [HL.out]; exact hlt) HBE.out
          rwa [if_neg (by decide), if_neg (by decide), HX.out] at this
        have LONG := Lib.hid (fun w => tklong_any 0 0 x1 w)
        rw [if_pos rfl] at LONG
        go_wp2_with (at_builtin; refine Hid.out ?_)
        refine Lib.hid ?_
        refine wpList_append_tok (ts := ts) (B := w.heap.size) (T := 43) ⟨0, 0, x1⟩ ((HO.out.keeps KK.out (fun _ _ h => h)).keeps ((Keeps.refl None _).alloc _) (fun _ _ h => h)) (Blk.newAt (b := wr.heap.size + 1) (by simp) (tcell ⟨0, 0, x1⟩) 43) (by omega) (Nat.le_trans HK.out.size ((KK.out.alloc _).size)) rfl rfl rfl rfl rfl ?_
        intro v' w4 ho4 hk4
        have kb4 := hk4.blk (KB.out.alloc (.cells #[.int .i64 0, .int .i64 0, .int .u8 x1] 43)) (fun h => Nat.lt_irrefl _ (HO.out.block h).2)
        have K4 := Lib.hid ((HK.out.trans (KK.out.alloc (.cells #[.int .i64 0, .int .i64 0, .int .u8 x1] 43)) (T := None) (fun _ h => h) (fun _ _ h => h)).trans hk4 (T := None) (fun _ h => h) (fun i hi h => absurd (HO.out.block h).1 (by omega)))
        have c40 := kb4.cellD 0 _ rfl
        have c41 := kb4.cellD 1 _ rfl
        have c42 := kb4.cellD 2 _ rfl
        have HO4 := Lib.hid ho4
        clear kb4 hk4 ho4 KB KK HO HX HBE
        go_wp2_with fail
        refine (LONG.out _).mono ?_
        rintro e w5 ⟨rfl, k5⟩
        have HO5 := Lib.hid (HO4.out.keeps k5 (fun _ _ h => h))
        have K5 := Lib.hid (K4.out.trans k5 (T := None) (fun _ h => h) (fun _ _ h => h))
        clear k5 K4 HO4 LONG c40 c41 c42
        go_wp2
        go_roundw
        case rel => exact ⟨a + 1, _, by have := HL.out; omega, by go_num, ST.out, HO5.out, K5.out⟩
        case measure => simp [intOf]; omega
    · obtain rfl : a = L := by omega
      have HT := Lib.hid hT
      have HO := Lib.hid hO
      have HK := Lib.hid hK
      clear hT hO hK
      go_wp2
      go_ret
      exact ⟨_, ts, rfl, HT.out, HO.out, HK.out⟩
end Go.Proofs.Ytggjdkkobhefeaa
