/- Layer 05's laws: their head, and what is too great. -/
import Derived.Test.YtblabchnpkofgaaSa
set_option linter.unusedSimpArgs false
set_option linter.unusedVariables false
namespace Go.Proofs.Ytblabchnpkofgaa
open Go.RowKit Go.Sy
def small : Nt := ⟨⟨1, 4, 4⟩, [⟨1, 2, 3, 1⟩, ⟨2, 0, 0, 0⟩, ⟨3, 0, 2, 0⟩, ⟨4, 3, 0, 0⟩]⟩
theorem fnSmall : Fn1 Try.prog 59 [] (ntV small) := by
  refine Fn1.of (rs := [ntV small]) (res := [.cell 0 26]) Try.call59 Try.func59 rfl Try.ntmps59 rfl (by simp) fun c hc => ?_
  refine z_go ?_
  with_reducible first | apply Fin.rt | apply Fin.nx
  refine .cons (.cellA inferInstance rfl rfl rfl (Nat.le_of_ble_eq_true rfl) (.of (.mk rfl ?_))) .nil
  exact z_vle
def hdA : Nt := ⟨⟨1, 4, 4⟩, [⟨3, 0, 3, 0⟩]⟩
def hdB : Nt := ⟨⟨0, 4, 4⟩, []⟩
def hdC : Nt := ⟨⟨8, 4, 4⟩, [⟨4, 5, 0, 0⟩]⟩
def hdL : List Sh := [⟨1, 4, 4⟩, ⟨2, 2, 2⟩, ⟨2, 2, 2⟩, ⟨2, 1, 1⟩, ⟨3, 1, 1⟩]
theorem head_vals : ckS small = hdL ∧ ckE small = 0 ∧ ckE hdA = 21 ∧ ckE hdB = 1 ∧ ckE hdC = 5 ∧ ckW small 3 = (18, 6) ∧ sumW (ckL small) = 24 ∧ sumP (ckL small) = 86 ∧ ckP small 0 = 72 ∧ ckP small 1 = 8 := by
  decide +kernel
theorem fnHead5 : Fn1 Try.prog 22 [] (.b true) := by
  refine Fn1.of (rs := [.b true]) (res := [.tmp 0]) Try.call22 Try.func22 rfl Try.ntmps22 rfl (by simp) fun c hc => ?_
  obtain ⟨e1, e2, e3, e4, e5, e6, e7, e8, e9, e10⟩ := head_vals
  have q1 := fnCkShapes small
  have q2 := fnCkShapes hdA
  have q3 := fnCkShapes hdB
  have q4 := fnCkShapes hdC
  have q5 := fnCkWeights small 3
  have q6 := fnCkSums small
  have q7 := fnRSame hdL hdL (by decide)
  have q8 := fnCkProducts small 0
  have q9 := fnCkProducts small 1
  have q10 := fnCkRight small
  rw [e1, e2] at q1
  rw [e3] at q2
  rw [e4] at q3
  rw [e5] at q4
  rw [e6] at q5
  rw [e7, e8] at q6
  rw [e9] at q8
  rw [e10] at q9
  rw [e2] at q10
  have k1 := fnSmall; have k2 := q1; have k3 := q2; have k4 := q3; have k5 := q4; have k6 := q5; have k7 := q6; have k8 := q7; have k9 := q8; have k10 := q9; have k11 := q10; refine z_go ?_
  with_reducible first | apply Fin.rt | apply Fin.nx
  refine .cons (.tmp rfl (.of (.of ?_))) .nil
  kernel_rfl
end Go.Proofs.Ytblabchnpkofgaa
