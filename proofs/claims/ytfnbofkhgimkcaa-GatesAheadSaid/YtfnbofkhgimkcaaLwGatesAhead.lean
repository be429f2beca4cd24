/- The law GatesAhead: for every input the call returns true. -/
import Derived.Test.YtfnbofkhgimkcaaVc
import Derived.Test.YtfnbofkhgimkcaaRn
import Derived.Test.YtfnbofkhgimkcaaTw
namespace Go.Proofs.Ytfnbofkhgimkcaa
open Go.RowKit Go.Sy
theorem GatesAhead_walk {w : World} {va : Value} {n : Nt} {i1 : Int} {i2 : Int} (ha : (ntV n).Rep Any w va) (_ : n.ls.length ≤ maxLen) (hi1 : (Lit.int .u8 i1).wf = true) (hi2 : (Lit.int .i64 i2).wf = true) :
    Calls Try.prog 13 #[va, .int .u8 i1, .int .i64 i2] w fun e w' => e = .returned (.bool true) ∧ Below w.heap.size w w' :=
  ((GatesAhead_fn n i1 i2 (wf_u8 hi1)).calls Any w [va, .int .u8 i1, .int .i64 i2] (fun _ _ => trivial) ⟨_, _, rfl, ha, _, _, rfl, rfl, _, _, rfl, rfl, rfl⟩).mono fun e w' ⟨u, h1, h2, h3⟩ => ⟨by rw [h1, show u = _ from h3], h2⟩
end Go.Proofs.Ytfnbofkhgimkcaa
