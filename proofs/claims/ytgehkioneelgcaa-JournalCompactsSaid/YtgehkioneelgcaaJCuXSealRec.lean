
/- Records: an argument opened; the plain law of Put and Get; SameRecord. -/
import Derived.Test.YtgehkioneelgcaaJCuXSealAl
import Derived.Test.YtgehkioneelgcaaJCuXInit
import Derived.Deep.Strs
namespace Go.Proofs.Ytgehkioneelgcaa
open Go.RowKit Go.ChangeShapes Go.WideShapes Go.ChangeAt

set_option maxRecDepth 100000
section
variable {H : Type} {enc : TypeId × Value → H} {w : World} {base : Nat} {spare : Nat → Bool} {held : Bool}
theorem open_record {v : Value} {d : DataW H} {p : List MemPlace} {base' : Nat} (hok : Value.okWide Try.prog w .any base' 40 v) (h : DataW.Trod enc Try.prog w base spare held 40 v d p) :
    ∃ (k s : Int) (A : Option Addr) (n cap : Nat) (zs : List Int), v = .agg #[.int .i64 k, .int .i64 s, .slice A n cap] ∧ Bs w A n cap zs := by
  obtain ⟨cs, rfl, hsz⟩ := okWide_struct Try.underlying40 hok
  obtain ⟨fuel, hf⟩ := h
  obtain ⟨y0, y1, y2, m, _, hl, h0, h1, h2⟩ := Go.Deep.trod_struct3 Try.underlying40 hf
  have hl3 : cs.size = 3 := by rw [hsz]; kernel_rfl
  obtain ⟨a, b, c, rfl⟩ : ∃ a b c, cs = #[a, b, c] := by
    obtain ⟨l⟩ := cs
    match l, hl3 with
    | [a, b, c], _ => exact ⟨a, b, c, rfl⟩
  have q0 : DataW.trod enc Try.prog w base spare held m 3 [a] = some y0 := h0
  have q1 : DataW.trod enc Try.prog w base spare held m 3 [b] = some y1 := h1
  have q2 : DataW.trod enc Try.prog w base spare held m 24 [c] = some y2 := h2
  obtain ⟨k, ek, _⟩ := DataW.trod_int Try.underlying3 q0
  obtain ⟨s, es, _⟩ := DataW.trod_int Try.underlying3 q1
  cases ek
  cases es
  have key : ∃ A n cap, c = .slice A n cap := by
    rcases open_ints Try.underlying24 Try.underlying5 (by kernel_rfl) q2 with ⟨hcs, _⟩ | ⟨x, l, c', zs, hcs, _⟩
    · cases hcs; exact ⟨_, _, _, rfl⟩
    · cases hcs; exact ⟨_, _, _, rfl⟩
  obtain ⟨A, n, cap, rfl⟩ := key
  obtain ⟨zs, hz⟩ := open_bs (d := y2.1) (p := y2.2) ⟨m, q2⟩
  exact ⟨k, s, A, n, cap, zs, rfl, hz⟩
end

/-! ### The plain law -/
theorem putL_cons (k s : Int) (zs more : List Int) (hf : fitsR k s zs.length) : putL k s zs ++ more = k :: 0 :: ((zs.length : Int) % 256) :: ((zs.length : Int) / 256) :: ((s.toNat : Int) % 256) :: ((s.toNat : Int) / 256 % 256) :: ((s.toNat : Int) / 65536 % 256) :: ((s.toNat : Int) / 16777216) :: (zs ++ (List.replicate (padK zs.length) 0 ++ (tailL (frontL k s zs) ++ more))) := by
  unfold putL
  rw [if_pos hf]
  simp [frontL, headL, le4]
theorem putL_len (k s : Int) (zs : List Int) (hf : fitsR k s zs.length) : ((putL k s zs).length : Int) = sizeZ zs.length := by
  have h5 := hf.2.2.2.2
  have := putL_cons k s zs [] hf
  rw [List.append_nil] at this
  rw [this]
  have e : sizeZ zs.length = 16 + ((zs.length : Int) + 7) / 8 * 8 := if_neg (by omega)
  rw [e]
  have hp : padK zs.length = (8 - zs.length % 8) % 8 := rfl
  simp only [List.length_cons, List.length_append, List.length_replicate, tailL, le4, List.length_nil]
  omega
/-- A record is read as it was put. -/
theorem get_put (k s : Int) (zs more : List Int) (hf : fitsR k s zs.length) : getL (putL k s zs ++ more) = some (k, s, zs, sizeZ zs.length) := by
  have hlen := putL_len k s zs hf
  have hc := putL_cons k s zs more hf
  obtain ⟨f1, f2, f3, f4, f5⟩ := hf
  have hs : sizeZ zs.length = 16 + ((zs.length : Int) + 7) / 8 * 8 := if_neg (by omega)
  have hn : ((zs.length : Int) % 256) + ((zs.length : Int) / 256) * 256 = zs.length := by omega
  have hq : ((s.toNat : Int) % 256) + ((s.toNat : Int) / 256 % 256) * 256 + ((s.toNat : Int) / 65536 % 256) * 65536 + ((s.toNat : Int) / 16777216) * 16777216 = s := by omega
  have hpl : (putL k s zs ++ more).length = (putL k s zs).length + more.length := List.length_append
  unfold getL
  rw [if_neg (by rw [hpl]; omega)]
  have g0 : (putL k s zs ++ more).getD 0 0 = k := by rw [hc]; rfl
  have g2 : (putL k s zs ++ more).getD 2 0 = (zs.length : Int) % 256 := by rw [hc]; rfl
  have g3 : (putL k s zs ++ more).getD 3 0 = (zs.length : Int) / 256 := by rw [hc]; rfl
  have g4 : (putL k s zs ++ more).getD 4 0 = (s.toNat : Int) % 256 := by rw [hc]; rfl
  have g5 : (putL k s zs ++ more).getD 5 0 = (s.toNat : Int) / 256 % 256 := by rw [hc]; rfl
  have g6 : (putL k s zs ++ more).getD 6 0 = (s.toNat : Int) / 65536 % 256 := by rw [hc]; rfl
  have g7 : (putL k s zs ++ more).getD 7 0 = (s.toNat : Int) / 16777216 := by rw [hc]; rfl
  have g8 : ((putL k s zs ++ more).drop 8).take zs.length = zs := by rw [hc]; simp
  simp only [g0, g2, g3, g4, g5, g6, g7, hn, hq, Int.toNat_natCast, g8]
  rw [if_neg (by rw [hpl]; omega), if_pos]
  rw [← hlen, Int.toNat_natCast, List.take_left']
  rfl
/-- No proper front of a record is one. -/
theorem get_front (k s : Int) (zs : List Int) (hf : fitsR k s zs.length) (c : Nat) (hc : c < (putL k s zs).length) : getL ((putL k s zs).take c) = none := by
  have hlen := putL_len k s zs hf
  have hco := putL_cons k s zs [] hf
  rw [List.append_nil] at hco
  have htl : ((putL k s zs).take c).length = c := by rw [List.length_take]; omega
  unfold getL
  by_cases h16 : c < 16
  · rw [if_pos (by rw [htl]; exact h16)]
  · rw [if_neg (by rw [htl]; exact h16)]
    have g2 : ((putL k s zs).take c).getD 2 0 = (zs.length : Int) % 256 := by
      have : ((putL k s zs).take c).getD 2 0 = (putL k s zs).getD 2 0 := by simp [List.getD, List.getElem?_take, show 2 < c by omega]
      rw [this, hco]; rfl
    have g3 : ((putL k s zs).take c).getD 3 0 = (zs.length : Int) / 256 := by
      have : ((putL k s zs).take c).getD 3 0 = (putL k s zs).getD 3 0 := by simp [List.getD, List.getElem?_take, show 3 < c by omega]
      rw [this, hco]; rfl
    have hn : ((zs.length : Int) % 256) + ((zs.length : Int) / 256) * 256 = zs.length := by omega
    simp only [g2, g3, hn, htl]
    rw [if_pos (.inr (by omega))]
end Go.Proofs.Ytgehkioneelgcaa
