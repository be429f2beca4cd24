/- The law GatesBack: for every input the call returns true. -/
import Derived.Test.YtfnbofkhgimkcaaVC
import Derived.Test.YtfnbofkhgimkcaaRn
import Derived.Test.YtfnbofkhgimkcaaTw
namespace Go.Proofs.Ytfnbofkhgimkcaa
open Go.RowKit Go.Sy
theorem GatesBack_walk {w : World} {va : Value} {n : Nt} {i1 : Int} {i2 : Int} {i3 : Int} {i4 : Int} (ha : (ntV n).Rep Any w va) (_ : n.ls.length ≤ maxLen) (hi1 : (Lit.int .i64 i1).wf = true) (hi2 : (Lit.int .i64 i2).wf = true) (hi3 : (Lit.int .i64 i3).wf = true) (hi4 : (Lit.int .i64 i4).wf = true) :
    Calls Try.prog 10 #[va, .int .i64 i1, .int .i64 i2, .int .i64 i3, .int .i64 i4] w fun e w' => e = .returned (.bool true) ∧ Below w.heap.size w w' :=
  ((GatesBack_fn n i1 i2 i3 i4).calls Any w [va, .int .i64 i1, .int .i64 i2, .int .i64 i3, .int .i64 i4] (fun _ _ => trivial) ⟨_, _, rfl, ha, _, _, rfl, rfl, _, _, rfl, rfl, _, _, rfl, rfl, _, _, rfl, rfl, rfl⟩).mono fun e w' ⟨u, h1, h2, h3⟩ => ⟨by rw [h1, show u = _ from h3], h2⟩
end Go.Proofs.Ytfnbofkhgimkcaa
