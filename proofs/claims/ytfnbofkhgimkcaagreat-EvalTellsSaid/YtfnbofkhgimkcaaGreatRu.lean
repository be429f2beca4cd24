/- Rows of 64-bit numbers among a law's arguments, opened. -/
import Derived.Test.YtfnbofkhgimkcaaGreatRn
import Derived.Test.YtfnbofkhgimkcaaGreatUA
namespace Go.Proofs.YtfnbofkhgimkcaaGreat
open Go.ChangeShapes Go.WideShapes Go.ChangeAt Go.RowKit Go.Sy
theorem RdU64 : Rd Tryz.prog 27 (Kd.int .u64) (fun n => (Lit.int .u64 n).wf = true) := Rd.int Tryz.underlying27
theorem wf_u64 {a : Int} (h : (Lit.int .u64 a).wf = true) : 0 ≤ a ∧ a < 18446744073709551616 := by
  have e1 : IntKind.u64.min = 0 := rfl
  have e2 : IntKind.u64.max = 18446744073709551615 := rfl
  simp [Lit.wf, IntKind.wrap, e1, e2] at h
  omega
theorem us_repL {S : Nat → Prop} {w : World} : ∀ {l : List Int} {cs : List Value}, (Kd.int .u64).many S w l cs → V.RepL S w (l.flatMap encU) cs
  | [], cs, h => h
  | x :: l, cs, ⟨c, cs', h1, h2, h3⟩ => by
    subst h1
    subst h3
    exact ⟨_, _, rfl, rfl, us_repL h2⟩
def uOk (l : List Int) : Prop := ∀ x ∈ l, 0 ≤ x ∧ x < 18446744073709551616
set_option maxRecDepth 100000 in
theorem opU {H : Type} {enc : TypeId × Value → H} {W : World} {base : Nat} {v : Value} {d : DataW H} {p : List MemPlace} (hv : Value.okWide Tryz.prog W .any base 28 v)
    (h : DataW.Trod enc Tryz.prog W 0 (fun _ => true) true 28 v d p) : ∃ l, (V.list encU l).Rep Any W v ∧ uOk l := by
  obtain ⟨a, n, c, rfl⟩ := okWide_slice Tryz.underlying28 hv
  have r := Rd.list Tryz.underlying28 (by kernel_rfl) rfl RdU64
  obtain ⟨fuel, hf⟩ := h
  obtain ⟨l, ⟨v', e, hL⟩, hl⟩ := r.get _ _ _ _ _ _ hf
  have e' : Value.slice a n c = v' := by simpa [Value.cells] using e
  subst e'
  obtain ⟨us, h4, a', c', h1, h2, h3, h5⟩ := hL
  exact ⟨l, ⟨a', c', us, h1, h2, h3, us_repL h4, h5⟩, fun x hx => wf_u64 (hl.2 x hx)⟩
end Go.Proofs.YtfnbofkhgimkcaaGreat
