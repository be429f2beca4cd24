/- CheckWeights's walk. -/
import Derived.Test.YtblabchnpkofgaaSe
import Derived.Test.YtblabchnpkofgaaRn
namespace Go.Proofs.Ytblabchnpkofgaa
open Go.RowKit Go.Sy
theorem CheckWeights_walk {w : World} {va : Value} {n : Nt} (ha : (ntV n).Rep Any w va) (_ : n.ls.length ≤ maxLen) :
    Calls Try.prog 6 #[va] w fun e w' => e = .returned (.bool true) ∧ Below w.heap.size w w' :=
  ((CheckWeights_fn n).calls Any w [va] (fun _ _ => trivial) ⟨_, _, rfl, ha, rfl⟩).mono fun e w' ⟨u, h1, h2, h3⟩ => ⟨by rw [h1, show u = _ from h3], h2⟩
end Go.Proofs.Ytblabchnpkofgaa
