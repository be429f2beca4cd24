/- Sessions: the head of layer 20's laws. -/
import Derived.Test.YtdehiohjlbmmdaaG5
set_option linter.unusedSimpArgs false
set_option linter.unusedVariables false
namespace Go.Proofs.Ytdehiohjlbmmdaa
open Go.RowKit Go.Sy
abbrev hdA0 : Lk := lkNew 5
abbrev hdB0 : Lk := lkNew 9
abbrev hdB1 : Lk := ⟨9, 5, false, [], 0, 0⟩
abbrev hdA1 : Lk := ⟨5, 9, true, [], 0, 0⟩
abbrev hdA2 : Lk := ⟨5, 9, true, [[120]], 0, 0⟩
abbrev hdB2 : Lk := ⟨9, 5, true, [], 0, 1⟩
abbrev hdC : Lk := ⟨5, 9, true, [], 1, 0⟩
abbrev hdF : List UInt8 := dataOf hdA1 0 [120]
theorem hd1 : lkTick hdA0 = [helloOf hdA0] := rfl
theorem hd2 : lkSend hdA0 [120] = hdA0 ∧ frSend hdA0 [120] = [] := ⟨rfl, rfl⟩
theorem hd3 : lkTake hdB0 (helloOf hdA0) = hdB1 ∧ outTake hdB0 (helloOf hdA0) = [helloOf hdB1] ∧ bodyTake hdB0 (helloOf hdA0) = [] ∧ anewTake hdB0 (helloOf hdA0) = true := by
  refine ⟨?_, ?_, ?_, ?_⟩ <;> kernel_rfl
theorem hd4 : lkTake hdA0 (helloOf hdB1) = hdA1 ∧ outTake hdA0 (helloOf hdB1) = [ackOf hdA1] ∧ bodyTake hdA0 (helloOf hdB1) = [] ∧ anewTake hdA0 (helloOf hdB1) = true := by
  refine ⟨?_, ?_, ?_, ?_⟩ <;> kernel_rfl
theorem hd5 : lkSend hdA1 [120] = hdA2 ∧ frSend hdA1 [120] = hdF := ⟨rfl, rfl⟩
theorem hd6 : lkTake hdB1 hdF = hdB2 ∧ outTake hdB1 hdF = [ackOf hdB2] ∧ bodyTake hdB1 hdF = [120] ∧ anewTake hdB1 hdF = false := by
  refine ⟨?_, ?_, ?_, ?_⟩ <;> kernel_rfl
theorem hd7 : lkTake hdB2 hdF = hdB2 ∧ outTake hdB2 hdF = [ackOf hdB2] ∧ bodyTake hdB2 hdF = [] ∧ anewTake hdB2 hdF = false := by
  refine ⟨?_, ?_, ?_, ?_⟩ <;> kernel_rfl
theorem hd8 : lkTake hdA2 (ackOf hdB2) = hdC ∧ outTake hdA2 (ackOf hdB2) = [] ∧ bodyTake hdA2 (ackOf hdB2) = [] ∧ anewTake hdA2 (ackOf hdB2) = false := by
  refine ⟨?_, ?_, ?_, ?_⟩ <;> kernel_rfl
end Go.Proofs.Ytdehiohjlbmmdaa
