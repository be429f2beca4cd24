/- The law EvalTells: for every input the call returns true. -/
import Derived.Test.YtfnbofkhgimkcaaGreatWf
import Derived.Test.YtfnbofkhgimkcaaGreatRn
import Derived.Test.YtfnbofkhgimkcaaGreatTw
import Derived.Test.YtfnbofkhgimkcaaGreatRu
namespace Go.Proofs.YtfnbofkhgimkcaaGreat
open Go.RowKit Go.Sy
theorem EvalTells_walk {w : World} {va : Value} {n : Nt} {i1 : Int} {i2 : Int} {i3 : Int} {vi4 : Value} {i4 : List Int} {vi5 : Value} {i5 : List Int} {vi6 : Value} {i6 : List Int} (ha : (ntV n).Rep Any w va) (_ : n.ls.length ≤ maxLen) (hi1 : (Lit.int .i64 i1).wf = true) (hi2 : (Lit.int .u64 i2).wf = true) (hi3 : (Lit.int .i64 i3).wf = true) (hi4 : (V.list encU i4).Rep Any w vi4) (ui4 : uOk i4) (hi5 : (V.list encU i5).Rep Any w vi5) (ui5 : uOk i5) (hi6 : (V.list encU i6).Rep Any w vi6) (ui6 : uOk i6) :
    Calls Tryz.prog 3 #[va, .int .i64 i1, .int .u64 i2, .int .i64 i3, vi4, vi5, vi6] w fun e w' => e = .returned (.bool true) ∧ Below w.heap.size w w' :=
  ((EvalTells_fn n i1 i2 i3 i4 i5 i6).calls Any w [va, .int .i64 i1, .int .u64 i2, .int .i64 i3, vi4, vi5, vi6] (fun _ _ => trivial) ⟨_, _, rfl, ha, _, _, rfl, rfl, _, _, rfl, rfl, _, _, rfl, rfl, _, _, rfl, hi4, _, _, rfl, hi5, _, _, rfl, hi6, rfl⟩).mono fun e w' ⟨u, h1, h2, h3⟩ => ⟨by rw [h1, show u = _ from h3], h2⟩
end Go.Proofs.YtfnbofkhgimkcaaGreat
