/- What is too great; the first law of layer 05. -/
import Derived.Test.YtblabchnpkofgaaSb
set_option linter.unusedSimpArgs false
set_option linter.unusedVariables false
namespace Go.Proofs.Ytblabchnpkofgaa
open Go.RowKit Go.Sy
theorem fnGreat4 (n : Nt) : Fn1 Try.prog 23 [ntV n] (.b (decide ((n.ls.length : Int) > 60))) := by
  refine Fn1.of (rs := [.b _]) (res := [.tmp 2]) Try.call23 Try.func23 rfl Try.ntmps23 rfl (by simp) fun c hc => ?_
  refine z_go ?_
  with_reducible first | apply Fin.rt | apply Fin.nx
  exact (.cons (.tmp rfl (.of (.of rfl))) .nil)
theorem ckS_len (n : Nt) : (ckS n).length ≤ 1000000 := by
  by_cases h : ckE n = 0
  · have := ck_len h
    omega
  · simp [ckS, h]
set_option maxHeartbeats 2000000 in
theorem CheckTells_fn (n : Nt) (i : Int) : Fn1 Try.prog 3 [ntV n, .i i] (.b true) := by
  refine Fn1.of (rs := [.b true]) (res := [.tmp 4]) Try.call3 Try.func3 rfl Try.ntmps3 rfl (by simp) fun c hc => ?_
  have k1 := fnHead5; have k2 := fnGreat4 n; refine z_go ?_
  apply Sym.cond
  · rfl
  · intro _
    refine z_go ?_
    with_reducible first | apply Fin.rt | apply Fin.nx
    exact (.cons (.tmp rfl (.of (.of rfl))) .nil)
  · intro _
    have k1 := fnCkShapes n; have k2 := fnRShapes n; have k3 := fnCkWeights n i; have k4 := fnRWeights n i; have k5 := fnCkSums n; have k6 := fnRSums n; have k7 := fnRSame (ckS n) (ckS n) (ckS_len n); have k8 := fnCkRight n; have k9 := fnRRight n; have k10 := fnCkProducts n i; have k11 := fnRProducts n i; refine z_go ?_
    with_reducible first | apply Fin.rt | apply Fin.nx
    refine .cons (.tmp rfl (.of (.of ?_))) .nil
    simp [D.toV]
end Go.Proofs.Ytblabchnpkofgaa
