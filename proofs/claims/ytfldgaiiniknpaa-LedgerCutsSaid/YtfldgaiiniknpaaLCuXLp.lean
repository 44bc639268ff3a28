
/- The plain law of a ledger: what a call leaves, also where power goes. -/
import Derived.Test.YtfldgaiiniknpaaLCuXLg13
import Derived.Test.YtfldgaiiniknpaaLCuXLgChk
import Derived.Test.YtfldgaiiniknpaaLCuXJlCm
namespace Go.Proofs.Ytfldgaiiniknpaa
open Go.RowKit

theorem foldl_numR : ∀ (l : List Rec) (i : Nat) (s : St), (numR i l).foldl stepS s = l.foldl stepS s
  | [], _, _ => rfl
  | r :: l, i, s => by
    rw [numR, List.foldl_cons, List.foldl_cons, foldl_numR l (i + 1)]
    rfl
theorem foldS_numR (l : List Rec) (i : Nat) : foldS (numR i l) = foldS l := foldl_numR l i st0
theorem nextS_step {st : St} (h : st.inv) (kind : Int) (body : List Int) : nextS st kind body = stepS st ⟨kind, 0, body⟩ := by
  unfold nextS
  rw [foldS_append, fold_recs h]
  rfl
theorem foldS_push (l : List Rec) (kind q : Int) (body : List Int) (h : (foldS l).inv) : foldS (l ++ [⟨kind, q, body⟩]) = nextS (foldS l) kind body := by
  rw [nextS_step h, foldS_append]
  rfl
theorem foldS_next {st : St} (h : st.inv) (kind : Int) {body : List Int} (hb : Byt body) : foldS (numR 0 (recsS (nextS st kind body))) = nextS st kind body := by
  rw [foldS_numR, fold_recs (nextS_inv h kind hb)]
theorem JOk.err {j : JS} (h : JOk j) (e : Int) : JOk { j with err := e } := ⟨h.ll, h.bl, h.used, h.cur, h.epoch⟩
/-- The journal's facts behind an append, cut or not. -/
theorem app_ok {s : FS} {n e : Nat} {c : Int} {l : List Rec} {T : List Int} (g : FG s n) (hd : s.dark = false) (hk : Keep s e c l T) (kind : Int) {body : List Int} (hb : Byt body) : JOk (appF s (keptJ e c l T) kind body).2.1 ∧ 2 ≤ (appF s (keptJ e c l T) kind body).1.er.length := by
  rcases keep_app g hd hk kind body hb with ⟨-, h1⟩ | ⟨-, -, h1⟩ | ⟨s', -, -, -, -, g', ⟨b1, -, b3, -, -⟩ | ⟨b1, -, -⟩⟩
  · rw [h1]; exact ⟨hk.ok, by rw [g.el]; exact g.n2⟩
  · rw [h1]; exact ⟨hk.ok, by rw [g.el]; exact g.n2⟩
  · rw [b1]; exact ⟨b3.ok, by rw [g'.el]; exact g'.n2⟩
  · rw [b1]; exact ⟨hk.ok.err 5, by rw [g'.el]; exact g'.n2⟩
/-- A record kept, no power lost. -/
theorem Live.kept {s : FS} {n e : Nat} {c : Int} {l : List Rec} {T : List Int} {m : Nat} (h : Live s n e c l T (m + 2)) (he : e + 1 ≤ 4294967295) (kind : Int) {body : List Int} (hb : Byt body) :
    ∃ s' e' c' l' T' er, keepF s (keptJ e c l T) (foldS l) kind body = (s', keptJ e' c' l' T', foldS l', er) ∧ Live s' n e' c' l' T' m ∧ e' ≤ e + 1 := by
  have inv := foldS_inv h.keep.bytG
  rcases Live.app (m := m + 1) h kind body hb with ⟨-, h1⟩ | ⟨-, -, h1⟩ | ⟨s', -, -, -, -, h1, h2, -⟩
  · exact ⟨s, e, c, l, T, 1, by unfold keepF; simp [h1], h.less (by omega), by omega⟩
  · have hby := recsS_byt (nextS_inv inv kind hb)
    rcases Live.cmp (m := m) (h.less (by omega)) he (recsS (nextS (foldS l) kind body)) hby with ⟨-, h3⟩ | ⟨s', -, -, -, h3, h4, -, -⟩
    · exact ⟨s, e, c, l, T, 1, by unfold keepF; simp [h1, h3], h.less (by omega), by omega⟩
    · exact ⟨s', e + 1, nextZ c, _, _, 0, by unfold keepF; simp [h1, h3, foldS_next inv kind hb], h4, Nat.le_refl _⟩
  · exact ⟨s', e, c, _, _, 0, by unfold keepF; simp [h1, foldS_push l kind _ body inv], h2.less (by omega), by omega⟩
/-- A record kept, where power may go. -/
theorem Live.cutKept {s : FS} {n e : Nat} {c : Int} {l : List Rec} {T : List Int} {m : Nat} (h : Live s n e c l T (m + 2)) (a : Int) {ps : List Int} (hp : Byt ps) (he : e + 1 ≤ 4294967295) (kind : Int) {body : List Int} (hb : Byt body) :
    ∃ s' j' st' er e' c' l' T', keepF (s.armF a ps) (keptJ e c l T) (foldS l) kind body = (s', j', st', er) ∧ FG s' n ∧ Live s'.bootF n e' c' l' T' m ∧ e' ≤ e + 1 ∧
      ((er = 0 ∧ st' = foldS l') ∨ (er ≠ 0 ∧ st' = foldS l ∧ (foldS l' = foldS l ∨ foldS l' = nextS (foldS l) kind body))) := by
  have inv := foldS_inv h.keep.bytG
  have hg := h.g.arm a hp
  have hk := h.keep.arm a ps
  have hd : (s.armF a ps).dark = false := by rw [(armF_b s a ps).2]; exact h.dark
  have hr := JRm.app (m := 1625 * (m + 1)) ((h.rm.arm a ps).less (by omega)) (keptJ e c l T) kind body
  have same : Live (s.armF a ps).bootF n e c l T m := Live.boot hg hk.boot ((h.rm.arm a ps).less (by omega))
  rcases keep_app hg hd hk kind body hb with ⟨-, h1⟩ | ⟨-, -, h1⟩ | ⟨s', -, -, -, -, g', ⟨b1, -, b3, -, -⟩ | ⟨b1, -, ⟨T', b3⟩ | b3⟩⟩
  · exact ⟨_, _, _, 1, e, c, l, T, by unfold keepF; simp [h1]; rfl, hg, same, by omega, .inr ⟨by decide, rfl, .inl rfl⟩⟩
  · have hby := recsS_byt (nextS_inv inv kind hb)
    rcases cut_cmp (m := m) (h.less (by omega)) a hp he hby with h3 | ⟨s', j', er, e', c', l', T', h3, h4, g', v', q', hl⟩
    · exact ⟨_, _, _, 1, e, c, l, T, by unfold keepF; simp [h1, h3]; rfl, hg, same, by omega, .inr ⟨by decide, rfl, .inl rfl⟩⟩
    · by_cases h0 : er = 0
      · subst h0
        refine ⟨s', j', nextS (foldS l) kind body, 0, e', c', l', T', by unfold keepF; simp [h1, h3], g', v', q', .inl ⟨rfl, ?_⟩⟩
        rcases hl with ⟨-, h5⟩ | rfl
        · exact absurd rfl h5
        · exact (foldS_next inv kind hb).symm
      · refine ⟨s', j', foldS l, er, e', c', l', T', by unfold keepF; simp [h1, h3, h0], g', v', q', .inr ⟨h0, rfl, ?_⟩⟩
        rcases hl with ⟨rfl, -⟩ | rfl
        · exact .inl rfl
        · exact .inr (foldS_next inv kind hb)
  · rw [b1] at hr
    exact ⟨s', _, _, 0, e, c, _, _, by unfold keepF; simp [b1]; rfl, g', Live.boot g' b3.boot (hr.less (by omega)), by omega, .inl ⟨rfl, (foldS_push l kind _ body inv).symm⟩⟩
  · rw [b1] at hr
    exact ⟨s', _, foldS l, 5, e, c, l, T', by unfold keepF; simp [b1]; rfl, g', Live.boot g' b3 (hr.less (by omega)), by omega, .inr ⟨by decide, rfl, .inl rfl⟩⟩
  · rw [b1] at hr
    exact ⟨s', _, foldS l, 5, e, c, _, _, by unfold keepF; simp [b1]; rfl, g', Live.boot g' b3 (hr.less (by omega)), by omega, .inr ⟨by decide, rfl, .inr (foldS_push l kind _ body inv)⟩⟩
end Go.Proofs.Ytfldgaiiniknpaa
