/- The law CheckSquares: for every input the call returns true. -/
import Derived.Test.YtblabchnpkofgaaSh
import Derived.Test.YtblabchnpkofgaaRn
import Derived.Test.YtblabchnpkofgaaTw
namespace Go.Proofs.Ytblabchnpkofgaa
open Go.RowKit Go.Sy
theorem CheckSquares_walk {w : World} {va : Value} {n : Nt} {i1 : Int} (ha : (ntV n).Rep Any w va) (_ : n.ls.length ≤ maxLen) (hi1 : (Lit.int .u8 i1).wf = true) :
    Calls Try.prog 7 #[va, .int .u8 i1] w fun e w' => e = .returned (.bool true) ∧ Below w.heap.size w w' :=
  ((CheckSquares_fn n i1 (wf_u8 hi1)).calls Any w [va, .int .u8 i1] (fun _ _ => trivial) ⟨_, _, rfl, ha, _, _, rfl, rfl, rfl⟩).mono fun e w' ⟨u, h1, h2, h3⟩ => ⟨by rw [h1, show u = _ from h3], h2⟩
end Go.Proofs.Ytblabchnpkofgaa
