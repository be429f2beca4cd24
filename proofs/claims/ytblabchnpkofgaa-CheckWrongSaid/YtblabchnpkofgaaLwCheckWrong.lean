/- The law CheckWrong: for every input the call returns true. -/
import Derived.Test.YtblabchnpkofgaaSh
import Derived.Test.YtblabchnpkofgaaRn
import Derived.Test.YtblabchnpkofgaaTw
namespace Go.Proofs.Ytblabchnpkofgaa
open Go.RowKit Go.Sy
theorem CheckWrong_walk {w : World} {va vb : Value} {n : Nt} {x : Ly} (ha : (ntV n).Rep Any w va) (_ : n.ls.length ≤ maxLen) (hb : (lyV x).Rep Any w vb) (_ : True) :
    Calls Try.prog 8 #[va, vb] w fun e w' => e = .returned (.bool true) ∧ Below w.heap.size w w' :=
  ((CheckWrong_fn n x).calls Any w [va, vb] (fun _ _ => trivial) ⟨_, _, rfl, ha, _, _, rfl, hb, rfl⟩).mono fun e w' ⟨u, h1, h2, h3⟩ => ⟨by rw [h1, show u = _ from h3], h2⟩
end Go.Proofs.Ytblabchnpkofgaa
