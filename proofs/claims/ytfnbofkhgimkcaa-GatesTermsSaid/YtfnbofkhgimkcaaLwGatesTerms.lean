/- The law GatesTerms: for every input the call returns true. -/
import Derived.Test.YtfnbofkhgimkcaaVC
import Derived.Test.YtfnbofkhgimkcaaRn
import Derived.Test.YtfnbofkhgimkcaaTw
namespace Go.Proofs.Ytfnbofkhgimkcaa
open Go.RowKit Go.Sy
theorem GatesTerms_walk {w : World} {va : Value} {n : Nt} {i1 : Int} {i2 : Int} (ha : (ntV n).Rep Any w va) (_ : n.ls.length ≤ maxLen) (hi1 : (Lit.int .u8 i1).wf = true) (hi2 : (Lit.int .u8 i2).wf = true) :
    Calls Try.prog 11 #[va, .int .u8 i1, .int .u8 i2] w fun e w' => e = .returned (.bool true) ∧ Below w.heap.size w w' :=
  ((GatesTerms_fn n i1 i2 (wf_u8 hi1) (wf_u8 hi2)).calls Any w [va, .int .u8 i1, .int .u8 i2] (fun _ _ => trivial) ⟨_, _, rfl, ha, _, _, rfl, rfl, _, _, rfl, rfl, rfl⟩).mono fun e w' ⟨u, h1, h2, h3⟩ => ⟨by rw [h1, show u = _ from h3], h2⟩
end Go.Proofs.Ytfnbofkhgimkcaa
