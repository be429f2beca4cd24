/- CheckTells' walk. -/
import Derived.Test.YtblabchnpkofgaaSc
import Derived.Test.YtblabchnpkofgaaRn
namespace Go.Proofs.Ytblabchnpkofgaa
open Go.RowKit Go.Sy
theorem CheckTells_walk {w : World} {va : Value} {n : Nt} {i : Int} (ha : (ntV n).Rep Any w va) (_ : n.ls.length ≤ maxLen) (_ : (Lit.int .i64 i).wf = true) :
    Calls Try.prog 3 #[va, .int .i64 i] w fun e w' => e = .returned (.bool true) ∧ Below w.heap.size w w' :=
  ((CheckTells_fn n i).calls Any w [va, .int .i64 i] (fun _ _ => trivial) ⟨_, _, rfl, ha, _, _, rfl, rfl, rfl⟩).mono fun e w' ⟨u, h1, h2, h3⟩ => ⟨by rw [h1, show u = _ from h3], h2⟩
end Go.Proofs.Ytblabchnpkofgaa
