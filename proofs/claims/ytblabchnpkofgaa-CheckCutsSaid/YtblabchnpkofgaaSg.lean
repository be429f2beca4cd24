/- Layer 05: the walks of CheckCuts, CheckSquares and CheckWrong. -/
import Derived.Test.YtblabchnpkofgaaSd
set_option linter.unusedSimpArgs false
set_option linter.unusedVariables false
namespace Go.Proofs.Ytblabchnpkofgaa
open Go.RowKit Go.Sy
set_option maxHeartbeats 2000000 in
theorem CheckCuts_fn (n : Nt) (a : Int) (ha : 0 ≤ a ∧ a ≤ 255) : Fn1 Try.prog 5 [ntV n, .x (.int .u8 a)] (.b true) := by
  refine Fn1.of (rs := [.b true]) (res := [.tmp 4]) Try.call5 Try.func5 rfl Try.ntmps5 rfl (by simp) fun c hc => ?_
  have k1 := fnHead5; have k2 := fnGreat4 n; have k3 := fnCkRight n; refine z_go ?_
  apply Sym.cond
  · rfl
  · intro _
    refine z_go ?_
    with_reducible first | apply Fin.rt | apply Fin.nx
    exact (.cons (.tmp rfl (.of (.of rfl))) .nil)
  · intro h
    simp only [Bool.or_eq_false_iff, Bool.not_eq_false', beq_iff_eq, decide_eq_false_iff_not] at h
    obtain ⟨hg, hE⟩ := h
    obtain ⟨l1, l2, l3⟩ := ck_len hE
    obtain ⟨k, hk, hkl⟩ := modN a n.ls.length ha.1
    have kb : 0 ≤ a % ((n.ls.length : Int) + 1) ∧ a % ((n.ls.length : Int) + 1) ≤ n.ls.length := by omega
    have hcut := ck_cut hE hkl
    obtain ⟨c1, c2, c3⟩ := hcut
    have hsame := fnRSame (ckS (ntCut n k)) ((ckS n).take (k + 1)) (ckS_len _)
    rw [c3, beq_self_eq_true] at hsame
    have e1 := fnCkShapes (ntCut n k)
    have e2 := fnCkSums (ntCut n k)
    rw [c1, c3] at e1
    rw [c2] at e2
    obtain ⟨q1, q2⟩ := ck_cutSum hE hkl
    rw [c2] at q1 q2
    apply Sym.skip
    apply thenS.nx
    apply Sym.seq
    apply Sym.regionL
    refine z_s1 ?_
    rw [hk]
    refine z_go ?_
    (apply Sym.drawXL [7, 8] (by kernel_rfl) (by kernel_rfl) (by kernel_rfl))
    refine z_xgo ?_
    have k1 := fnCkShapes n; have k2 := e1; have k3 := hsame; refine z_go ?_
    apply Sym.cond
    · rfl
    · intro hbad
      exfalso
      simp [hE, l2] at hbad
      omega
    · intro _
      have k1 := e2; refine z_go ?_
      refine Sym.loop (fun r s => ∃ i : Nat, i ≤ n.ls.length ∧ r = n.ls.length - i ∧ s = ⟨[(14, true, .p (.i i)), (13, true, .p (.i (sumP ((ckL n).take k)))), (12, true, .p (.i (sumW ((ckL n).take k)))), (7, true, .ptr 1 0), (6, true, .p (.i k)), (5, true, .p (.b true)), (2, true, .ptr 0 0)], [some (ntBox n), some (ntBox (ntCut n k))]⟩) n.ls.length ⟨_, ⟨0, Nat.zero_le _, by simp, rfl⟩, z_wkt⟩ ?_
      rintro r s ⟨i, hi, rfl, rfl⟩
      refine z_go ?_
      apply Sym.cond
      · rfl
      · intro hlt
        simp only [decide_eq_true_eq] at hlt
        obtain ⟨g1, g2, g3⟩ := ck_cutW hE hkl i
        have k1 := fnCkWeights n i; have k2 := fnCkWeights (ntCut n k) i; have k3 := fnCkProducts n i; have k4 := fnCkProducts (ntCut n k) i; refine z_go ?_
        apply Sym.cond
        · rfl
        · intro hbad
          exfalso
          by_cases hik : i < k
          · obtain ⟨a1, a2⟩ := g1 hik
            simp [a1, a2] at hbad
            omega
          · obtain ⟨a1, a2⟩ := g2 (by omega)
            simp [a1, a2, hik] at hbad
            have a3 := g3 (by omega) (by omega)
            rw [c2] at a3
            exact hbad.2 a3
        · intro _
          refine z_go ?_
          refine ⟨_, ?_, _, ⟨i + 1, by omega, rfl, rfl⟩, z_wkt⟩
          omega
      · intro _
        have k1 := fnCkSums n; refine z_go ?_
        with_reducible first | apply Fin.rt | apply Fin.nx
        refine .cons (.tmp rfl (.of (.of ?_))) .nil
        simp [D.toV, q1, q2]
end Go.Proofs.Ytblabchnpkofgaa
