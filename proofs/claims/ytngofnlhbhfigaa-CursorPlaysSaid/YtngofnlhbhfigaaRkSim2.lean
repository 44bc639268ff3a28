/- Both cursors in plain words: a byte, a row of bytes, Flush, New. -/
import Derived.Test.YtngofnlhbhfigaaRkSim
import Derived.Test.YtngofnlhbhfigaaKcW
namespace Go.Proofs.Ytngofnlhbhfigaa
open Go.RowKit

theorem full_eq {k : KS} (h : k.word.length = 8) (hn : k.n ≤ 8) : k.full = k.word.take k.n ++ blankN ((8 - k.n : Nat) : Int) := by
  unfold KS.full splice blankN
  have hl : (k.word.take k.n).length = k.n := by rw [List.length_take]; omega
  rw [hl, List.take_zero, List.nil_append, Nat.zero_add, List.drop_replicate]
  congr 2
  omega
theorem take_set_next {l : List Int} {n : Nat} (h : n < l.length) (z : Int) : (l.set n z).take (n + 1) = l.take n ++ [z] := by
  rw [List.take_succ_eq_append_getElem (by rw [List.length_set]; exact h), List.getElem_set_self, List.take_set_of_le (Nat.le_refl _)]
theorem CLive.put {c x0 : Nat} {k : KS} {kr : RS} {z : Int} (h : CLive c x0 k kr) (h7 : k.n + 1 < 8) : CLive c x0 (k.got z) { kr with at_ := kr.at_ + 1, held := kr.held ++ [z] } := by
  have e : k.at_ + 1 - (k.n + 1) = k.at_ - k.n := by omega
  exact ⟨h7, (by show k.n + 1 ≤ k.at_ + 1; have := h.na; omega), (by show (k.at_ + 1 - (k.n + 1)) % 8 = 0; rw [e]; exact h.al), (by show x0 ≤ (k.at_ + 1 - (k.n + 1)) / 1024; rw [e]; exact h.lo), (by show (k.at_ + 1 - (k.n + 1)) / 1024 ≤ k.ready; rw [e]; exact h.pos), ⟨h.rdy.rdy, h.rdy.ent, h.rdy.rc, h.rdy.rl, h.rdy.el⟩⟩
theorem put_sim {f c : Nat} {s r : FS} {k : KS} {kr : RS} {z : Int} (hs : Sim s r) (h : CSim c k kr) (hl : k.word.length = 8) (h0 : k.err = 0) (ha : k.at_ + 1 ≤ 1024 * c) (hc : c ≤ 256) (hr : Room s 264) :
    Sim (putK f c s k z).1 (rput f c r kr z).1 ∧ (rput f c r kr z).2.2 = (putK f c s k z).2.2 ∧ CSim c (putK f c s k z).2.1 (rput f c r kr z).2.1 := by
  obtain ⟨x0, hv⟩ := h.live h0
  have hn := hv.n
  have hna := hv.na
  have hlen : kr.held.length = k.n := by rw [h.held, List.length_take]; omega
  have hd2 : kr.held ++ [z] = (k.word.set k.n z).take (k.n + 1) := by rw [take_set_next (by omega), h.held]
  by_cases h7 : k.n + 1 < 8
  · unfold rput
    rw [putK_free h7, if_neg (by omega)]
    exact ⟨hs, rfl, by show kr.at_ + 1 = k.at_ + 1; rw [h.at_], hd2, h.dead, fun _ => ⟨x0, hv.put h7⟩⟩
  · have hn7 : k.n = 7 := by omega
    have gl : (k.got z).word.length = 8 := by show (k.word.set k.n z).length = 8; rw [List.length_set]; exact hl
    have gn : (k.got z).n = 8 := by show k.n + 1 = 8; omega
    have gd : (k.got z).at_ - (k.got z).n = kr.at_ + 1 - 8 := by rw [gn]; show k.at_ + 1 - 8 = _; rw [h.at_]
    have gf : kr.held ++ [z] = (k.got z).full := by
      rw [full_eq gl (by omega), gn, hd2]
      show (k.word.set k.n z).take (k.n + 1) = (k.word.set k.n z).take 8 ++ _
      rw [hn7]
      show _ = _ ++ []
      rw [List.append_nil]
    have pos8 : k.at_ - k.n = kr.at_ + 1 - 8 := by rw [h.at_]; omega
    have W := word_sim (f := f) (x0 := x0) (s := s) (r := r) (k := k.got z) (kr := { kr with at_ := kr.at_ + 1, held := kr.held ++ [z] }) (zs := kr.held ++ [z]) hs ⟨hv.rdy.rdy, hv.rdy.ent, hv.rdy.rc, hv.rdy.rl, hv.rdy.el⟩ (by rw [gd, ← pos8]; exact hv.lo) (by rw [gd, ← pos8]; exact hv.pos) (by rw [gd]; have := h.at_; omega) gf (KS.full_len gl (by omega)) hc hr
    rw [gd] at W
    obtain ⟨W1, W2, W3⟩ := W
    have st := progK_st f c s (k.got z)
    have rs := rword_st f c r { kr with at_ := kr.at_ + 1, held := kr.held ++ [z] } (kr.at_ + 1 - 8) (kr.held ++ [z])
    have hat : kr.at_ + 1 = k.at_ + 1 := by rw [h.at_]
    unfold rput
    have h8' : kr.held.length + 1 = 8 := by omega
    rw [putK_full h7, if_pos h8']
    generalize progK f c s (k.got z) = PK at *
    generalize rword f c r { kr with at_ := kr.at_ + 1, held := kr.held ++ [z] } (kr.at_ + 1 - 8) (kr.held ++ [z]) = RW at *
    obtain ⟨ps, pk, pe⟩ := PK
    obtain ⟨rr, rk, re⟩ := RW
    dsimp only at W1 W2 W3 st rs ⊢
    subst W2
    by_cases he : re = 0
    · subst he
      obtain ⟨V1, V2⟩ := W3 rfl
      rw [if_pos rfl, if_neg (by decide)]
      refine ⟨W1, rfl, by show rk.at_ = pk.at_; rw [rs.1, st.1]; exact hat, rfl, by show (0 : Int) = pk.err; rw [st.2.2.2], fun _ => ⟨x0, by show 0 < 8; decide, Nat.zero_le _, ?_, ?_, ?_, ⟨V1.rdy, V1.ent, V1.rc, V1.rl, V1.el⟩⟩⟩
      · show (pk.at_ - 0) % 8 = 0
        rw [st.1]
        show (k.at_ + 1 - 0) % 8 = 0
        have := hv.al; omega
      · show x0 ≤ (pk.at_ - 0) / 1024
        rw [st.1]
        show x0 ≤ (k.at_ + 1 - 0) / 1024
        have := hv.lo; omega
      · show (pk.at_ - 0) / 1024 ≤ pk.ready
        rw [st.1]
        show (k.at_ + 1 - 0) / 1024 ≤ pk.ready
        rw [← pos8] at V2
        omega
    · rw [if_neg he, if_pos he]
      refine ⟨W1, rfl, by show rk.at_ = pk.at_; rw [rs.1, st.1]; exact hat, by show rk.held = _; rw [rs.2.1, st.2.2.1, st.2.1]; exact hd2, st.2.2.2.symm, fun hh => absurd (st.2.2.2.symm.trans hh) he⟩
theorem putK_wl (f c : Nat) (s : FS) (k : KS) (z : Int) (h : k.word.length = 8) : (putK f c s k z).2.1.word.length = 8 := putK_len f c s k z h
theorem row_sim {f c : Nat} (hc : c ≤ 256) : ∀ (zs : List Int) (s r : FS) (k : KS) (kr : RS), Sim s r → CSim c k kr → k.word.length = 8 → k.err = 0 → k.n < 8 → k.at_ + zs.length ≤ 1024 * c → Room s (zs.length * 264) →
    Sim (rowK f c zs s k).1 (rrow f c zs r kr).1 ∧ (rrow f c zs r kr).2.2 = (rowK f c zs s k).2.2 ∧ CSim c (rowK f c zs s k).2.1 (rrow f c zs r kr).2.1
  | [], s, r, k, kr, hs, h, _, _, _, _, _ => ⟨hs, rfl, h⟩
  | z :: zs, s, r, k, kr, hs, h, hl, h0, h7, ha, hr => by
    rw [List.length_cons] at ha hr
    obtain ⟨p1, p2, p3⟩ := put_sim (f := f) (z := z) hs h hl h0 (by omega) hc (hr.less (by omega))
    have st := putK_st f c s k z h0 h7
    have hr1 : Room (putK f c s k z).1 (zs.length * 264) := Room.put (hr.less (by omega)) hc hl h7
    rw [rowK_cons, rrow_cons]
    by_cases he : (putK f c s k z).2.2 = 0
    · rw [if_neg (by simpa using he), if_neg (by rw [p2]; simpa using he)]
      exact row_sim hc zs _ _ _ _ p1 p3 (putK_wl f c s k z hl) (st.2.1.trans he) (st.2.2 he) (by rw [st.1]; omega) hr1
    · rw [if_pos he, if_pos (by rw [p2]; exact he)]
      exact ⟨p1, p2, p3⟩
theorem write_sim {f c : Nat} {s r : FS} {k : KS} {kr : RS} {zs : List Int} (hc : c ≤ 256) (hs : Sim s r) (h : CSim c k kr) (hl : k.word.length = 8) (hal : k.at_ ≤ 1024 * c) (hr : Room s (zs.length * 264)) :
    Sim (writeK f c s k zs).1 (rwrite f c r kr zs).1 ∧ (rwrite f c r kr zs).2.2 = (writeK f c s k zs).2.2 ∧ CSim c (writeK f c s k zs).2.1 (rwrite f c r kr zs).2.1 := by
  unfold writeK rwrite
  rw [h.dead, h.at_]
  by_cases h0 : k.err = 0
  · have n0 : ¬ k.err ≠ 0 := by simpa using h0
    rw [if_neg n0, if_neg n0]
    by_cases h1 : 1024 * c - k.at_ < zs.length
    · rw [if_pos h1, if_pos h1]; exact ⟨hs, rfl, h⟩
    · rw [if_neg h1, if_neg h1]
      obtain ⟨x0, hv⟩ := h.live h0
      exact row_sim hc zs s r k kr hs h hl h0 hv.n (by omega) hr
  · rw [if_pos h0, if_pos h0]; exact ⟨hs, rfl, h⟩
theorem flush_sim {f c : Nat} {s r : FS} {k : KS} {kr : RS} (hc : c ≤ 256) (hs : Sim s r) (h : CSim c k kr) (hl : k.word.length = 8) (hal : k.at_ ≤ 1024 * c) (hr : Room s 264) :
    Sim (flushK f c s k).1 (rflush f c r kr).1 ∧ (rflush f c r kr).2.2 = (flushK f c s k).2.2 ∧ CSim c (flushK f c s k).2.1 (rflush f c r kr).2.1 := by
  unfold flushK rflush
  by_cases h0 : k.err = 0
  · obtain ⟨x0, hv⟩ := h.live h0
    have hn := hv.n
    have hna := hv.na
    have hlen : kr.held.length = k.n := by rw [h.held, List.length_take]; omega
    by_cases h1 : k.n = 0
    · rw [if_pos (.inr h1), if_neg (fun hh => by omega)]
      exact ⟨hs, h.dead, h⟩
    · rw [if_neg (by rintro (hh | hh); exact hh h0; exact h1 hh), if_pos ⟨by rw [h.dead]; exact h0, by omega⟩]
      have hz : kr.held ++ blankN ((8 - kr.held.length : Nat) : Int) = k.full := by rw [full_eq hl (by omega), hlen, h.held]
      have hp : kr.at_ - kr.held.length = k.at_ - k.n := by rw [hlen, h.at_]
      rw [hz, hp]
      have W := word_sim (f := f) (zs := k.full) hs hv.rdy hv.lo hv.pos (by omega) rfl (KS.full_len hl (by omega)) hc hr
      obtain ⟨W1, W2, W3⟩ := W
      have st := progK_st f c s k
      have rs := rword_st f c r kr (k.at_ - k.n) k.full
      generalize progK f c s k = PK at *
      generalize rword f c r kr (k.at_ - k.n) k.full = RW at *
      obtain ⟨ps, pk, pe⟩ := PK
      obtain ⟨rr, rk, re⟩ := RW
      dsimp only at W1 W2 W3 st rs ⊢
      subst W2
      refine ⟨W1, rfl, by show rk.at_ = pk.at_; rw [rs.1, st.1, h.at_], by show rk.held = _; rw [rs.2.1, st.2.2.1, st.2.1, h.held], st.2.2.2.symm, fun hh => ?_⟩
      obtain ⟨V1, V2⟩ := W3 (st.2.2.2.symm.trans hh)
      exact ⟨x0, by rw [st.2.1]; exact hn, by rw [st.2.1, st.1]; exact hna, by rw [st.2.1, st.1]; exact hv.al, by rw [st.2.1, st.1]; exact hv.lo, by rw [st.2.1, st.1]; omega, ⟨V1.rdy, V1.ent, V1.rc, V1.rl, V1.el⟩⟩
  · rw [if_pos (.inl h0), if_neg (fun hh => h0 (by rw [← h.dead]; exact hh.1))]
    exact ⟨hs, h.dead, h⟩

/-- What New gives, in both. -/
def NewSim (c : Nat) (p : Option KS × Int) (q : Option RS × Int) : Prop :=
  (∃ e, e ≠ 0 ∧ p = (none, e) ∧ q = (none, e)) ∨ ∃ k kr, p = (some k, 0) ∧ q = (some kr, 0) ∧ CSim c k kr
theorem new_sim {f c : Nat} {s r : FS} (hs : Sim s r) (a : Int) : NewSim c (newK f c s a) (rnewK f c r a) := by
  unfold newK rnewK
  rw [hs.gread]
  by_cases h1 : a < 0 ∨ ((1024 * c : Nat) : Int) < a
  · rw [if_pos h1, if_pos h1]; exact .inl ⟨1, by decide, rfl, rfl⟩
  · rw [if_neg h1, if_neg h1]
    by_cases h2 : (s.gread f c (a - a % 8) (a % 8)).2 = 0
    · rw [if_neg (by simpa using h2), if_neg (by simpa using h2)]
      obtain ⟨a, rfl⟩ : ∃ x : Nat, a = x := ⟨a.toNat, by omega⟩
      have hl := gread_len h2
      obtain ⟨zs, hz⟩ : ∃ zs, (s.gread f c ((a : Int) - (a : Int) % 8) ((a : Int) % 8)).1 = zs := ⟨_, rfl⟩
      rw [hz] at hl ⊢
      simp only [Int.toNat_natCast]
      have hlz : zs.length = a % 8 := by omega
      refine .inr ⟨_, _, rfl, rfl, rfl, ?_, rfl, fun _ => ⟨a / 1024, by show a % 8 < 8; omega, by show a % 8 ≤ a; omega, by show (a - a % 8) % 8 = 0; omega, by show a / 1024 ≤ (a - a % 8) / 1024; omega, by show (a - a % 8) / 1024 ≤ (a + 1023) / 1024; omega, fun x h1 h2 => ?_, fun x h1 h2 h3 => ?_, by show (a + 1023) / 1024 ≤ c; omega, by simp, by simp⟩⟩
      · show zs = (splice [0, 0, 0, 0, 0, 0, 0, 0] 0 zs).take (a % 8)
        unfold splice
        rw [List.take_zero, List.nil_append, ← hlz, List.take_left']
        rfl
      · show ((List.replicate (c + 1) false).set (a / 1024) (decide (a % 1024 ≠ 0))).getD x false = _
        rw [set_getD_b]
        by_cases e : a / 1024 = x
        · rw [if_pos ⟨e, by rw [List.length_replicate]; omega⟩]
          exact decide_eq_decide.2 ⟨fun _ => by show x < (a + 1023) / 1024; omega, fun hh => by have hh : x < (a + 1023) / 1024 := hh; omega⟩
        · rw [if_neg (fun hh => e hh.1)]
          have : (List.replicate (c + 1) false).getD x false = false := by simp [List.getD, List.getElem?_replicate]; split <;> rfl
          rw [this]
          exact (decide_eq_false (by show ¬ x < (a + 1023) / 1024; omega)).symm
      · have : (List.replicate (c + 1) false).getD x false = false := by simp [List.getD, List.getElem?_replicate]; split <;> rfl
        exact absurd (this.symm.trans h3) (by decide)
    · rw [if_pos h2, if_pos h2]; exact .inl ⟨_, h2, rfl, rfl⟩
end Go.Proofs.Ytngofnlhbhfigaa
