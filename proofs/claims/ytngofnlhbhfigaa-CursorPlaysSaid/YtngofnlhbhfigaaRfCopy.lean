/- The walks of the reference's Copy, and of Read on a copy. -/
import Derived.Test.YtngofnlhbhfigaaRfErase
import Derived.Test.YtngofnlhbhfigaaMix4
namespace Go.Proofs.Ytngofnlhbhfigaa
open Go.RowKit

/-- A row of numbers appended to nothing. -/
theorem wpList_append_ints0 {ops : Array Oper} {rest : List Oper} {o : Oper} {a : Act} {Q : Exit → Act → World → Prop} {s x : Operand} {w : World} {g n : Nat} {er : List Int}
    (hb : Blk w g (er.map (.int .i64)) 3) (hl : er.length = n) (hlen : n ≤ 1099511627) (hg : o.guard = none) (hty : o.type = 49) (ho : o.op = .call { callee := .builtin .append, args := #[s, x], argTypes := #[49, 49] }) (h1 : a.eval s = .slice none 0 0) (h2 : a.eval x = .slice (some ⟨g, 0, none⟩) n n)
    (h : ∀ A m c w', Keeps None w w' → wpList Try.prog ops Q rest (a.put o.dst (.slice A m c)) w') : wpList Try.prog ops Q (o :: rest) a w := by
  obtain ⟨i, hi, hz0, hz1, hz2⟩ := info_parts Try.infoI3
  have hcells : ∀ j u, (er.map (Value.int .i64))[j]? = some u → w.cell? ((⟨g, 0, none⟩ : Addr).add j) = some u := by
    intro j u hu
    have e2 : (⟨g, 0, none⟩ : Addr).add j = ⟨g, j, none⟩ := by unfold Addr.add; split <;> first | rfl | (simp_all; done) | omega
    rw [e2, hb.cell j, hu]
  obtain ⟨v', w', hr, ho', hg', _⟩ := run_append_own (P := Try.prog) w w.heap.size 49 49 3 i (.int .i64 0) 1 8 Try.underlying49 hi hz0 hz1 hz2 rfl (by decide) (.slice none 0 0) 0 [] (World.ownsRow_nil _ _ _ _) ⟨g, 0, none⟩ n n (er.map (.int .i64)) (by simp [hl]) hcells
    (by intro u hu; obtain ⟨z, _, rfl⟩ := List.mem_map.1 hu; rfl) (by unfold maxLen; omega) (by omega) (Nat.le_refl _)
  have hk : Keeps None w w' := (Keeps.refl None w).grown hg' (fun k hk _ => by cases hk)
  rcases ho'.2 with ⟨e, _⟩ | ⟨g', cap', cur, e, _⟩
  · subst e; exact wpList_append_run hr hg hty ho h1 h2 (h _ _ _ w' hk)
  · subst e; exact wpList_append_run hr hg hty ho h1 h2 (h _ _ _ w' hk)

/-- What Copy gives. -/
def RCopied (w : World) (s : FS) (e : Ending) (w' : World) : Prop := ∃ b v0 v1 v4, e = .returned (.pointer (some ⟨b, 0, none⟩)) ∧ w.heap.size ≤ b ∧ Keeps None w w' ∧ Blk w' b [v0, v1, .int .i64 s.steps, .int .i64 s.left, v4, .bool s.dark] 51 ∧ Own w' w.heap.size v0 s.b ∧ ¬ v0.ownBlock = some b

set_option maxRecDepth 100000 in
set_option maxHeartbeats 1600000 in
theorem rfcopy_any (B : Nat) (L : RL) (s : FS) (q : Nat) (w : World) (h : RAt w B L s) (hq : L.bf = q) : Calls Try.prog 82 #[.pointer (some ⟨q, 0, none⟩)] w (RCopied w s) := by
  have hpl := h.pl
  obtain ⟨bf, gb, ge, N, capb, n, pA, pc, pk⟩ := L
  simp only [] at hq
  subst hq
  have c0 := h.f.cellD 0 _ rfl
  have c1 := h.f.cellD 1 _ rfl
  have c2 := h.f.cellD 2 _ rfl
  have c3 := h.f.cellD 3 _ rfl
  have c4 := h.f.cellD 4 _ rfl
  have c5 := h.f.cellD 5 _ rfl
  have hcap := h.bs.le
  have hcmx := h.bs.max
  have hN := h.nN
  have hn0 := h.n0
  have hn9 := h.n9
  have H := Lib.hid h
  simp only [] at c0 c1 c2 c3 c4 c5 hcap hcmx hN hn0 hn9
  have hNb : N ≤ 262144 := by omega
  have hN1 : 1024 ≤ N := by omega
  have HN := Lib.hid hN
  clear h hN
  simp only [] at hpl
  have HC := Lib.hid H.out.drew
  have KC : Hid (Keeps None w w.drew) := (Keeps.refl None w).drew
  go_enter Try.func82, Try.ntmps82
  go_wp2
  obtain ⟨mS, mh⟩ : ∃ S : World → Prop, ∀ w', S w' ↔ (w'.cell? ⟨bf, 0, none⟩ = some (.slice (some ⟨gb, 0, none⟩) N capb) ∧ w'.cell? ⟨bf, 1, none⟩ = some (.slice (some ⟨ge, 0, none⟩) n n) ∧ w'.cell? ⟨bf, 2, none⟩ = some (.int .i64 s.steps) ∧ w'.cell? ⟨bf, 3, none⟩ = some (.int .i64 s.left) ∧ w'.cell? ⟨bf, 4, none⟩ = some (.slice pA pk.length pc) ∧ w'.cell? ⟨bf, 5, none⟩ = some (.bool s.dark)) := ⟨_, fun _ => Iff.rfl⟩
  have mk0 : ∀ x : Memb mS, x.at_.cell? ⟨bf, 0, none⟩ = some (.slice (some ⟨gb, 0, none⟩) N capb) := fun x => ((mh _).1 x.is).1
  have mk1 : ∀ x : Memb mS, x.at_.cell? ⟨bf, 1, none⟩ = some (.slice (some ⟨ge, 0, none⟩) n n) := fun x => ((mh _).1 x.is).2.1
  have mk2 : ∀ x : Memb mS, x.at_.cell? ⟨bf, 2, none⟩ = some (.int .i64 s.steps) := fun x => ((mh _).1 x.is).2.2.1
  have mk3 : ∀ x : Memb mS, x.at_.cell? ⟨bf, 3, none⟩ = some (.int .i64 s.left) := fun x => ((mh _).1 x.is).2.2.2.1
  have mk4 : ∀ x : Memb mS, x.at_.cell? ⟨bf, 4, none⟩ = some (.slice pA pk.length pc) := fun x => ((mh _).1 x.is).2.2.2.2.1
  have mk5 : ∀ x : Memb mS, x.at_.cell? ⟨bf, 5, none⟩ = some (.bool s.dark) := fun x => ((mh _).1 x.is).2.2.2.2.2
  have mn : Nonempty (Memb mS) := ⟨⟨(w).drew, (mh _).2 ⟨c0, c1, c2, c3, c4, c5⟩⟩⟩
  have mH := Lib.hid mh
  clear mh
  refine wp_region_mix [4, 9, 22, 27, 28] (InS mS) (by kernel_rfl) (by kernel_rfl) (InS.mk ((mH.out _).2 ⟨c0, c1, c2, c3, c4, c5⟩)) ?_
  refine wpMix_seg 4 (by kernel_rfl) (by decide) ?_
  simp only [List.take_succ_cons, List.take_zero, List.drop_succ_cons, List.drop_zero]
  repeat (go_big_quiet_step (fail))
  refine wpQuiet_nil ?_
  refine wpMix_eff (by kernel_rfl) ?_
  go_wp2_with (at_builtin; refine Hid.out ?_)
  refine Lib.hid ?_
  refine wpList_append_bs (Own.nil _ w.heap.size) HC.out.bs (by simp; omega) KC.out.size rfl rfl rfl rfl rfl ?_
  intro v4 wx ho4 hk4
  rw [List.nil_append] at ho4
  have kx : Keeps None _ wx := hk4.mono (fun i hi e => by simp [Value.ownBlock] at e)
  obtain ⟨A4, cap4, rfl, -, -⟩ := ho4.shape
  have O4 := Lib.hid ho4
  have HD := Lib.hid (HC.out.later kx)
  have KD := Lib.hid (KC.out.trans kx (T := None) (fun _ h => h) (fun _ _ h => h))
  clear HC KC kx ho4 hk4
  have HC := HD
  have KC := KD
  clear HD KD
  go_wp2
  refine MixK.on (InS.mk ((mH.out _).2 (⟨HC.out.f.cellD 0 _ rfl, HC.out.f.cellD 1 _ rfl, HC.out.f.cellD 2 _ rfl, HC.out.f.cellD 3 _ rfl, HC.out.f.cellD 4 _ rfl, HC.out.f.cellD 5 _ rfl⟩))) ?_
  refine wpMix_seg 4 (by kernel_rfl) (by decide) ?_
  simp only [List.take_succ_cons, List.take_zero, List.drop_succ_cons, List.drop_zero]
  repeat (go_big_quiet_step (fail))
  refine wpQuiet_nil ?_
  refine wpMix_eff (by kernel_rfl) ?_
  go_wp2_with (at_builtin; refine Hid.out ?_)
  refine Lib.hid ?_
  refine wpList_append_ints0 HC.out.e HC.out.el (by show n ≤ _; omega) rfl rfl rfl rfl rfl ?_
  intro A9 m9 cap9 wx kx
  try have O5 := Lib.hid (O4.out.keeps kx (fun _ _ h => h))
  try clear O4
  try have O4 := O5
  try clear O5
  have HD := Lib.hid (HC.out.later kx)
  have KD := Lib.hid (KC.out.trans kx (T := None) (fun _ h => h) (fun _ _ h => h))
  clear HC KC kx
  have HC := HD
  have KC := KD
  clear HD KD
  go_wp2
  refine MixK.on (InS.mk ((mH.out _).2 (⟨HC.out.f.cellD 0 _ rfl, HC.out.f.cellD 1 _ rfl, HC.out.f.cellD 2 _ rfl, HC.out.f.cellD 3 _ rfl, HC.out.f.cellD 4 _ rfl, HC.out.f.cellD 5 _ rfl⟩))) ?_
  refine wpMix_seg 12 (by kernel_rfl) (by decide) ?_
  simp only [List.take_succ_cons, List.take_zero, List.drop_succ_cons, List.drop_zero]
  repeat (go_big_quiet_step (fail))
  refine wpQuiet_nil ?_
  refine wpMix_eff (by kernel_rfl) ?_
  go_wp2_with (at_builtin; refine Hid.out ?_)
  refine Lib.hid ?_
  refine wpList_append_bs (Own.nil _ w.heap.size) (ownBs HC.out.p) (by simp; omega) KC.out.size rfl rfl rfl rfl rfl ?_
  intro v22 wx ho22 hk22
  rw [List.nil_append] at ho22
  obtain ⟨A22, cap22, rfl, -, -⟩ := ho22.shape
  have kx : Keeps None _ wx := hk22.mono (fun i hi e => by simp [Value.ownBlock] at e)
  try have O5 := Lib.hid (O4.out.keeps kx (fun _ _ h => h))
  try clear O4
  try have O4 := O5
  try clear O5
  have HD := Lib.hid (HC.out.later kx)
  have KD := Lib.hid (KC.out.trans kx (T := None) (fun _ h => h) (fun _ _ h => h))
  clear HC KC kx ho22 hk22
  have HC := HD
  have KC := KD
  clear HD KD
  go_wp2
  refine MixK.on (InS.mk ((mH.out _).2 (⟨HC.out.f.cellD 0 _ rfl, HC.out.f.cellD 1 _ rfl, HC.out.f.cellD 2 _ rfl, HC.out.f.cellD 3 _ rfl, HC.out.f.cellD 4 _ rfl, HC.out.f.cellD 5 _ rfl⟩))) ?_
  refine wpMix_seg 4 (by kernel_rfl) (by decide) ?_
  simp only [List.take_succ_cons, List.take_zero, List.drop_succ_cons, List.drop_zero]
  repeat (go_big_quiet_step (fail))
  refine wpQuiet_nil ?_
  refine wpMix_eff (by kernel_rfl) ?_
  go_wp2
  refine MixK.on (InS.mk ((mH.out _).2 (⟨HC.out.f.cellD 0 _ rfl, HC.out.f.cellD 1 _ rfl, HC.out.f.cellD 2 _ rfl, HC.out.f.cellD 3 _ rfl, HC.out.f.cellD 4 _ rfl, HC.out.f.cellD 5 _ rfl⟩))) ?_
  refine wpMix_eff (by kernel_rfl) ?_
  go_wp2
  refine MixK.on (InS.mk ((mH.out _).2 (⟨(HC.out.alloc _).f.cellD 0 _ rfl, (HC.out.alloc _).f.cellD 1 _ rfl, (HC.out.alloc _).f.cellD 2 _ rfl, (HC.out.alloc _).f.cellD 3 _ rfl, (HC.out.alloc _).f.cellD 4 _ rfl, (HC.out.alloc _).f.cellD 5 _ rfl⟩))) ?_
  refine wpMix_seg 1 (by kernel_rfl) (by decide) ?_
  simp only [List.take_succ_cons, List.take_zero, List.drop_succ_cons, List.drop_zero]
  repeat (go_big_quiet_step (fail))
  refine wpQuiet_nil ?_
  refine wpMix_nil ?_
  clear mk0 mk1 mk2 mk3 mk4 mk5 mn mH
  go_wp2
  go_ret
  exact ⟨_, _, _, _, rfl, KC.out.size, KC.out.alloc _, Blk.new _ _ _, O4.out.alloc _, fun e => Nat.lt_irrefl _ (own_lt O4.out e)⟩
end Go.Proofs.Ytngofnlhbhfigaa
