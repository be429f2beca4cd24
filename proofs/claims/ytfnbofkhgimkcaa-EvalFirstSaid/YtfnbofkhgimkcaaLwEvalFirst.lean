/- The law EvalFirst: for every input the call returns true. -/
import Derived.Test.YtfnbofkhgimkcaaWa
import Derived.Test.YtfnbofkhgimkcaaRn
import Derived.Test.YtfnbofkhgimkcaaTw
import Derived.Test.YtfnbofkhgimkcaaRu
namespace Go.Proofs.Ytfnbofkhgimkcaa
open Go.RowKit Go.Sy
theorem EvalFirst_walk {w : World} {va : Value} {n : Nt} {vi1 : Value} {i1 : List Int} {vi2 : Value} {i2 : List Int} (ha : (ntV n).Rep Any w va) (_ : n.ls.length ≤ maxLen) (hi1 : (V.list encU i1).Rep Any w vi1) (ui1 : uOk i1) (hi2 : (V.list encU i2).Rep Any w vi2) (ui2 : uOk i2) :
    Calls Try.prog 6 #[va, vi1, vi2] w fun e w' => e = .returned (.bool true) ∧ Below w.heap.size w w' :=
  ((EvalFirst_fn n i1 i2).calls Any w [va, vi1, vi2] (fun _ _ => trivial) ⟨_, _, rfl, ha, _, _, rfl, hi1, _, _, rfl, hi2, rfl⟩).mono fun e w' ⟨u, h1, h2, h3⟩ => ⟨by rw [h1, show u = _ from h3], h2⟩
end Go.Proofs.Ytfnbofkhgimkcaa
