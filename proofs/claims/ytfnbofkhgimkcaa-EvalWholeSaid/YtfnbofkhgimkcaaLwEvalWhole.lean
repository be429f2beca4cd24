/- The law EvalWhole: for every input the call returns true. -/
import Derived.Test.YtfnbofkhgimkcaaWc
import Derived.Test.YtfnbofkhgimkcaaRn
import Derived.Test.YtfnbofkhgimkcaaTw
import Derived.Test.YtfnbofkhgimkcaaRu
namespace Go.Proofs.Ytfnbofkhgimkcaa
open Go.RowKit Go.Sy
theorem EvalWhole_walk {w : World} {va : Value} {n : Nt} {i1 : Int} {vi2 : Value} {i2 : List Int} {vi3 : Value} {i3 : List Int} {vi4 : Value} {i4 : List Int} {vi5 : Value} {i5 : List Int} (ha : (ntV n).Rep Any w va) (_ : n.ls.length ≤ maxLen) (hi1 : (Lit.int .u64 i1).wf = true) (hi2 : (V.list encU i2).Rep Any w vi2) (ui2 : uOk i2) (hi3 : (V.list encU i3).Rep Any w vi3) (ui3 : uOk i3) (hi4 : (V.list encU i4).Rep Any w vi4) (ui4 : uOk i4) (hi5 : (V.list encU i5).Rep Any w vi5) (ui5 : uOk i5) :
    Calls Try.prog 4 #[va, .int .u64 i1, vi2, vi3, vi4, vi5] w fun e w' => e = .returned (.bool true) ∧ Below w.heap.size w w' :=
  ((EvalWhole_fn n i1 i2 i3 i4 i5).calls Any w [va, .int .u64 i1, vi2, vi3, vi4, vi5] (fun _ _ => trivial) ⟨_, _, rfl, ha, _, _, rfl, rfl, _, _, rfl, hi2, _, _, rfl, hi3, _, _, rfl, hi4, _, _, rfl, hi5, rfl⟩).mono fun e w' ⟨u, h1, h2, h3⟩ => ⟨by rw [h1, show u = _ from h3], h2⟩
end Go.Proofs.Ytfnbofkhgimkcaa
