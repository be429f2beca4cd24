/- The law GatesOrder: for every input the call returns true. -/
import Derived.Test.YtfnbofkhgimkcaaVc
import Derived.Test.YtfnbofkhgimkcaaRn
import Derived.Test.YtfnbofkhgimkcaaTw
namespace Go.Proofs.Ytfnbofkhgimkcaa
open Go.RowKit Go.Sy
theorem GatesOrder_walk {w : World} {va : Value} {n : Nt} {i1 : Int} {i2 : Int} (ha : (ntV n).Rep Any w va) (_ : n.ls.length ≤ maxLen) (hi1 : (Lit.int .u16 i1).wf = true) (hi2 : (Lit.int .u16 i2).wf = true) :
    Calls Try.prog 14 #[va, .int .u16 i1, .int .u16 i2] w fun e w' => e = .returned (.bool true) ∧ Below w.heap.size w w' :=
  ((GatesOrder_fn n i1 i2 (wf_u16 hi1) (wf_u16 hi2)).calls Any w [va, .int .u16 i1, .int .u16 i2] (fun _ _ => trivial) ⟨_, _, rfl, ha, _, _, rfl, rfl, _, _, rfl, rfl, rfl⟩).mono fun e w' ⟨u, h1, h2, h3⟩ => ⟨by rw [h1, show u = _ from h3], h2⟩
end Go.Proofs.Ytfnbofkhgimkcaa
