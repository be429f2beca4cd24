/- CheckCuts's walk. -/
import Derived.Test.YtblabchnpkofgaaSg
import Derived.Test.YtblabchnpkofgaaRn
namespace Go.Proofs.Ytblabchnpkofgaa
open Go.RowKit Go.Sy
theorem u8_wf {a : Int} (h : (Lit.int .u8 a).wf = true) : 0 ≤ a ∧ a ≤ 255 := by
  have e1 : IntKind.u8.min = 0 := rfl
  have e2 : IntKind.u8.max = 255 := rfl
  simp [Lit.wf, IntKind.wrap, e1, e2] at h
  omega
theorem CheckCuts_walk {w : World} {va : Value} {n : Nt} {i : Int} (ha : (ntV n).Rep Any w va) (_ : n.ls.length ≤ maxLen) (hi : (Lit.int .u8 i).wf = true) :
    Calls Try.prog 5 #[va, .int .u8 i] w fun e w' => e = .returned (.bool true) ∧ Below w.heap.size w w' :=
  ((CheckCuts_fn n i (u8_wf hi)).calls Any w [va, .int .u8 i] (fun _ _ => trivial) ⟨_, _, rfl, ha, _, _, rfl, rfl, rfl⟩).mono fun e w' ⟨u, h1, h2, h3⟩ => ⟨by rw [h1, show u = _ from h3], h2⟩
end Go.Proofs.Ytblabchnpkofgaa
