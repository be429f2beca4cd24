/- The law GatesRow: for every input the call returns true. -/
import Derived.Test.YtfnbofkhgimkcaaVC
import Derived.Test.YtfnbofkhgimkcaaRn
import Derived.Test.YtfnbofkhgimkcaaTw
namespace Go.Proofs.Ytfnbofkhgimkcaa
open Go.RowKit Go.Sy
theorem GatesRow_walk {w : World} {va : Value} {n : Nt} (ha : (ntV n).Rep Any w va) (_ : n.ls.length ≤ maxLen) :
    Calls Try.prog 12 #[va] w fun e w' => e = .returned (.bool true) ∧ Below w.heap.size w w' :=
  ((GatesRow_fn n).calls Any w [va] (fun _ _ => trivial) ⟨_, _, rfl, ha, rfl⟩).mono fun e w' ⟨u, h1, h2, h3⟩ => ⟨by rw [h1, show u = _ from h3], h2⟩
end Go.Proofs.Ytfnbofkhgimkcaa
