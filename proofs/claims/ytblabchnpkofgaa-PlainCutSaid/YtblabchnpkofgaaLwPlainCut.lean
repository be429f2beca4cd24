/- The law PlainCut: for every input the call returns true. -/
import Derived.Test.YtblabchnpkofgaaUa
import Derived.Test.YtblabchnpkofgaaRn
import Derived.Test.YtblabchnpkofgaaTw
import Derived.Test.YtblabchnpkofgaaRu
namespace Go.Proofs.Ytblabchnpkofgaa
open Go.RowKit Go.Sy
theorem PlainCut_walk {w : World} {va : Value} {n : Nt} {vi1 : Value} {i1 : List Int} {vi2 : Value} {i2 : List Int} {i3 : Int} (ha : (ntV n).Rep Any w va) (_ : n.ls.length ≤ maxLen) (hi1 : (V.list encU i1).Rep Any w vi1) (ui1 : uOk i1) (hi2 : (V.list encU i2).Rep Any w vi2) (ui2 : uOk i2) (hi3 : (Lit.int .u8 i3).wf = true) :
    Calls Try.prog 20 #[va, vi1, vi2, .int .u8 i3] w fun e w' => e = .returned (.bool true) ∧ Below w.heap.size w w' :=
  ((PlainCut_fn n i1 i2 i3 (wf_u8 hi3)).calls Any w [va, vi1, vi2, .int .u8 i3] (fun _ _ => trivial) ⟨_, _, rfl, ha, _, _, rfl, hi1, _, _, rfl, hi2, _, _, rfl, rfl, rfl⟩).mono fun e w' ⟨u, h1, h2, h3⟩ => ⟨by rw [h1, show u = _ from h3], h2⟩
end Go.Proofs.Ytblabchnpkofgaa
