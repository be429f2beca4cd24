/- The law PlainWeights: for every input the call returns true. -/
import Derived.Test.YtblabchnpkofgaaU9
import Derived.Test.YtblabchnpkofgaaRn
import Derived.Test.YtblabchnpkofgaaTw
import Derived.Test.YtblabchnpkofgaaRu
namespace Go.Proofs.Ytblabchnpkofgaa
open Go.RowKit Go.Sy
theorem PlainWeights_walk {w : World} {va : Value} {n : Nt} {i1 : Int} {vi2 : Value} {i2 : List Int} {vi3 : Value} {i3 : List Int} {vi4 : Value} {i4 : List Int} {i5 : Int} (ha : (ntV n).Rep Any w va) (_ : n.ls.length ≤ maxLen) (hi1 : (Lit.int .u8 i1).wf = true) (hi2 : (V.list encU i2).Rep Any w vi2) (ui2 : uOk i2) (hi3 : (V.list encU i3).Rep Any w vi3) (ui3 : uOk i3) (hi4 : (V.list encU i4).Rep Any w vi4) (ui4 : uOk i4) (hi5 : (Lit.int .u64 i5).wf = true) :
    Calls Try.prog 17 #[va, .int .u8 i1, vi2, vi3, vi4, .int .u64 i5] w fun e w' => e = .returned (.bool true) ∧ Below w.heap.size w w' :=
  ((PlainWeights_fn n i1 i2 i3 i4 i5 (wf_u8 hi1)).calls Any w [va, .int .u8 i1, vi2, vi3, vi4, .int .u64 i5] (fun _ _ => trivial) ⟨_, _, rfl, ha, _, _, rfl, rfl, _, _, rfl, hi2, _, _, rfl, hi3, _, _, rfl, hi4, _, _, rfl, rfl, rfl⟩).mono fun e w' ⟨u, h1, h2, h3⟩ => ⟨by rw [h1, show u = _ from h3], h2⟩
end Go.Proofs.Ytblabchnpkofgaa
