/- The arguments of the laws of layers 05 to 07, opened. -/
import Derived.Test.YtblabchnpkofgaaRd
import Derived.Test.YtblabchnpkofgaaSA
namespace Go.Proofs.Ytblabchnpkofgaa
open Go.ChangeShapes Go.WideShapes Go.ChangeAt Go.RowKit Go.Sy
theorem RdInt : Rd Try.prog 3 (Kd.int .i64) (fun n => (Lit.int .i64 n).wf = true) := Rd.int Try.underlying3
abbrev ShT : Type := Int × (Int × Int)
abbrev LyT : Type := Int × (Int × (Int × Int))
abbrev Kd.sh : Kd ShT := (Kd.int .i64).pair ((Kd.int .i64).pair (Kd.int .i64))
abbrev Kd.ly : Kd LyT := (Kd.int .i64).pair ((Kd.int .i64).pair ((Kd.int .i64).pair (Kd.int .i64)))
theorem RdSh : ∃ R, Rd Try.prog 23 Kd.sh R := by
  have key : ∀ R, RdF _ _ 3 0 Kd.sh R → Rd Try.prog 23 Kd.sh R := fun R hh => Rd.struct Try.underlying23 (by kernel_rfl) hh
  exact ⟨_, key _ (RdF.cons (o := 0) 0 _ rfl rfl 1 (by kernel_rfl) RdInt (RdF.cons (o := 1) 1 _ rfl rfl 1 (by kernel_rfl) RdInt (RdF.last (o := 2) 2 _ rfl rfl (by kernel_rfl) RdInt)))⟩
theorem RdLy : ∃ R, Rd Try.prog 40 Kd.ly R := by
  have key : ∀ R, RdF _ _ 4 0 Kd.ly R → Rd Try.prog 40 Kd.ly R := fun R hh => Rd.struct Try.underlying40 (by kernel_rfl) hh
  exact ⟨_, key _ (RdF.cons (o := 0) 0 _ rfl rfl 1 (by kernel_rfl) RdInt (RdF.cons (o := 1) 1 _ rfl rfl 1 (by kernel_rfl) RdInt (RdF.cons (o := 2) 2 _ rfl rfl 1 (by kernel_rfl) RdInt (RdF.last (o := 3) 3 _ rfl rfl (by kernel_rfl) RdInt))))⟩
def lyOf (x : LyT) : Ly := ⟨x.1, x.2.1, x.2.2.1, x.2.2.2⟩
theorem lys_repL {S : Nat → Prop} {w : World} : ∀ {l : List LyT} {cs : List Value}, Kd.ly.many S w l cs → V.RepL S w ((l.map lyOf).flatMap encLy) cs
  | [], cs, h => h
  | x :: l, cs, ⟨c, cs', h1, h2, h3⟩ => by
    obtain ⟨x0, x1, x2, x3⟩ := x
    obtain ⟨_, _, rfl, ⟨_, _, rfl, ⟨_, _, rfl, rfl, rfl⟩, rfl⟩, rfl⟩ := h1
    subst h3
    exact ⟨_, _, rfl, rfl, _, _, rfl, rfl, _, _, rfl, rfl, _, _, rfl, rfl, lys_repL h2⟩
set_option maxRecDepth 100000 in
theorem opNt {H : Type} {enc : TypeId × Value → H} {W : World} {base : Nat} {v : Value} {d : DataW H} {p : List MemPlace} (hv : Value.okWide Try.prog W .any base 26 v)
    (h : DataW.Trod enc Try.prog W 0 (fun _ => true) true 26 v d p) : ∃ n, (ntV n).Rep Any W v ∧ n.ls.length ≤ maxLen := by
  obtain ⟨_, r1⟩ := RdSh
  obtain ⟨_, r2⟩ := RdLy
  have r3 := Rd.list Try.underlying24 (by kernel_rfl) rfl r2
  have key : ∀ R, RdF _ _ 4 0 (Kd.sh.pair Kd.ly.list) R → Rd Try.prog 26 _ R := fun R hh => Rd.struct Try.underlying26 (by kernel_rfl) hh
  have hR := key _ (RdF.cons (o := 0) 0 _ rfl rfl 3 (by kernel_rfl) r1 (RdF.last (o := 3) 1 _ rfl rfl (by kernel_rfl) r3))
  obtain ⟨cs, rfl, hsz⟩ := okWide_struct Try.underlying26 hv
  obtain ⟨fuel, hf⟩ := h
  obtain ⟨⟨⟨x0, x1, x2⟩, ls⟩, ⟨_, _, ⟨_, _, rfl, ⟨_, _, rfl, rfl, rfl⟩, rfl⟩, ⟨s, rfl, hL⟩, e⟩, hw⟩ := hR.get _ _ _ _ _ _ hf
  have e' : cs = #[.int .i64 x0, .int .i64 x1, .int .i64 x2, s] := by
    have : cs.toList = [.int .i64 x0, .int .i64 x1, .int .i64 x2, s] := by simpa [Value.cells] using e
    rw [← Array.toArray_toList (xs := cs), this]
  subst e'
  obtain ⟨us, h4, a', c', h1, h2, h3, h5⟩ := hL
  refine ⟨⟨⟨x0, x1, x2⟩, ls.map lyOf⟩, ⟨_, rfl, _, _, rfl, rfl, _, _, rfl, rfl, _, _, rfl, rfl, _, _, rfl, ⟨a', c', us, by rw [h1, List.length_map], by rw [List.length_map]; exact h2, h3, lys_repL h4, h5⟩, rfl⟩, ?_⟩
  show (ls.map lyOf).length ≤ maxLen
  rw [List.length_map]
  exact hw.2.1
set_option maxRecDepth 100000 in
theorem opLy {H : Type} {enc : TypeId × Value → H} {W : World} {base : Nat} {v : Value} {d : DataW H} {p : List MemPlace} (hv : Value.okWide Try.prog W .any base 40 v)
    (h : DataW.Trod enc Try.prog W 0 (fun _ => true) true 40 v d p) : ∃ x, (lyV x).Rep Any W v ∧ True := by
  obtain ⟨_, hR⟩ := RdLy
  obtain ⟨cs, rfl, hsz⟩ := okWide_struct Try.underlying40 hv
  obtain ⟨fuel, hf⟩ := h
  obtain ⟨⟨x0, x1, x2, x3⟩, ⟨_, _, rfl, ⟨_, _, rfl, ⟨_, _, rfl, rfl, rfl⟩, rfl⟩, e⟩, hw⟩ := hR.get _ _ _ _ _ _ hf
  have e' : cs = #[.int .i64 x0, .int .i64 x1, .int .i64 x2, .int .i64 x3] := by
    have : cs.toList = [.int .i64 x0, .int .i64 x1, .int .i64 x2, .int .i64 x3] := by simpa [Value.cells] using e
    rw [← Array.toArray_toList (xs := cs), this]
  subst e'
  exact ⟨⟨x0, x1, x2, x3⟩, ⟨_, rfl, _, _, rfl, rfl, _, _, rfl, rfl, _, _, rfl, rfl, _, _, rfl, rfl, rfl⟩, trivial⟩
end Go.Proofs.Ytblabchnpkofgaa
