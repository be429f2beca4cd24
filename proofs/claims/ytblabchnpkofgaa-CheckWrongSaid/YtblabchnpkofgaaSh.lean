/- Layer 05: the walks of CheckSquares and CheckWrong. -/
import Derived.Test.YtblabchnpkofgaaSC
import Derived.Test.YtblabchnpkofgaaEb
set_option linter.unusedSimpArgs false
set_option linter.unusedVariables false
namespace Go.Proofs.Ytblabchnpkofgaa
open Go.RowKit Go.Sy
set_option maxHeartbeats 2000000 in
theorem CheckWrong_fn (n : Nt) (x : Ly) : Fn1 Try.prog 8 [ntV n, lyV x] (.b true) := by
  refine Fn1.of (rs := [.b true]) (res := [.tmp 4]) Try.call8 Try.func8 rfl Try.ntmps8 rfl (by simp) fun c hc => ?_
  have k1 := fnHead5; have k2 := fnGreat4 n; refine z_go ?_
  apply Sym.cond
  · rfl
  · intro _
    refine z_go ?_
    with_reducible first | apply Fin.rt | apply Fin.nx
    exact (.cons (.tmp rfl (.of (.of rfl))) .nil)
  · intro h
    have hg : n.ls.length ≤ 60 := by
      simp only [decide_eq_false_iff_not] at h
      omega
    obtain ⟨m1, m2, m3⟩ := ck_more n x
    refine z_go ?_
    refine Sym.drawFP (e := 26) rfl [0, 1, 3, 4, 6, 7, 2, 5, 8, 9, 10, 11] 10 11 [6, 7, 8] (by kernel_rfl) (by kernel_rfl) z_perm (by kernel_rfl) (by kernel_rfl) (by kernel_rfl) rfl rfl rfl (by kernel_rfl) rfl rfl rfl ?_
    simp only [List.take_succ_cons, List.take_zero]
    have b1 : RowH 17 := .mk; have a1 : AppH encLy [] n.ls := .mk; have a2 : AppH encLy n.ls [x] := .mk; refine z_xgo ?_
    ((with_reducible apply XTo.read1); rfl; exact z_gd; exact MOp.allocAny rfl; exact rfl)
    (with_reducible apply XTo.done)
    refine drawF_store z_ev z_ev rfl rfl rfl rfl rfl z_wr z_nrm ?_
    ((apply Sym.ice encLy 2 (n.ls ++ [x])); rfl; rfl; (rw [hc]; first | exact Nat.zero_le _ | decide); (first | (simp only [TM.ice, TM.argsD, Hp.ice, D.ice, D.iceL, D.iceL_p, Nat.reduceBEq, Nat.beq, cond_true, cond_false, List.set_cons_zero, List.set_cons_succ, List.length_nil, List.length_cons, Nat.beq_refl]; try exact rfl) | exact rfl); (first | (simp only [TM.ice, TM.argsD, Hp.ice, D.ice, D.iceL, D.iceL_p, Nat.reduceBEq, Nat.beq, cond_true, cond_false, List.set_cons_zero, List.set_cons_succ, List.length_nil, List.length_cons, Nat.beq_refl]; try exact rfl) | exact rfl))
    have k1 := fnCkShapes n; have k2 := fnCkShapes (ntMore n x); have k3 := fnRForm (ntMore n x); refine z_go ?_
    apply Sym.cond
    · rfl
    · intro hF
      obtain ⟨e1, e2⟩ := m1 (by simpa using hF)
      refine z_go ?_
      with_reducible first | apply Fin.rt | apply Fin.nx
      refine .cons (.tmp rfl (.of (.of ?_))) .nil
      simp [D.toV, e1, e2]
    · intro hF
      have hF : ntForm (ntMore n x) = true := by simpa using hF
      have k1 := fnRShRight n.inp; refine z_go ?_
      apply Sym.cond
      · rfl
      · intro hR
        obtain ⟨e1, e2⟩ := m2 hF (by simpa using hR)
        refine z_go ?_
        with_reducible first | apply Fin.rt | apply Fin.nx
        refine .cons (.tmp rfl (.of (.of ?_))) .nil
        simp [D.toV, e1, e2]
      · intro hR
        obtain ⟨p1, p2, p3⟩ := m3 hF (by simpa using hR)
        refine z_go ?_
        apply Sym.cond
        · rfl
        · intro h21
          have e1 := p1 (by simpa using h21)
          refine z_go ?_
          with_reducible first | apply Fin.rt | apply Fin.nx
          refine .cons (.tmp rfl (.of (.of ?_))) .nil
          simp [D.toV, e1]
        · intro h21
          have h21 : ckE n ≠ 21 := by simpa using h21
          refine z_go ?_
          apply Sym.cond
          · rfl
          · intro h5
            have e1 := p2 (by simpa using h5)
            refine z_go ?_
            with_reducible first | apply Fin.rt | apply Fin.nx
            refine .cons (.tmp rfl (.of (.of ?_))) .nil
            rcases e1 with e1 | e1 <;> simp [D.toV, e1]
          · intro h5
            have h5 : ckE n ≠ 5 := by simpa using h5
            obtain ⟨e0, e1⟩ := p3 h21 h5
            refine z_go ?_
            with_reducible first | apply Fin.rt | apply Fin.nx
            refine .cons (.tmp rfl (.of (.of ?_))) .nil
            rcases e1 with e1 | e1 | ⟨e1, e2 | e2 | e2⟩ <;> simp [D.toV, e0, e1]
            all_goals simp [e2]
set_option maxHeartbeats 4000000 in
theorem CheckSquares_fn (n : Nt) (a : Int) (ha : 0 ≤ a ∧ a ≤ 255) : Fn1 Try.prog 7 [ntV n, .x (.int .u8 a)] (.b true) := by
  refine Fn1.of (rs := [.b true]) (res := [.tmp 4]) Try.call7 Try.func7 rfl Try.ntmps7 rfl (by simp) fun c hc => ?_
  have k1 := fnHead5; have k2 := fnGreat4 n; have k3 := fnCkRight n; refine z_go ?_
  apply Sym.cond
  · rfl
  · intro _
    refine z_go ?_
    with_reducible first | apply Fin.rt | apply Fin.nx
    exact (.cons (.tmp rfl (.of (.of rfl))) .nil)
  · intro h
    simp only [Bool.or_eq_false_iff, Bool.not_eq_false', beq_iff_eq, decide_eq_false_iff_not] at h
    obtain ⟨⟨hg, hE⟩, h8⟩ := h
    obtain ⟨l1, l2, l3⟩ := ck_len hE
    obtain ⟨hl8, hsum⟩ := ckL_ok n
    have hs := hsum n.ls.length
    rw [List.take_of_length_le (by omega)] at hs
    obtain ⟨k, hk, hkl⟩ := modN a n.ls.length ha.1
    have kb : 0 ≤ a % ((n.ls.length : Int) + 1) ∧ a % ((n.ls.length : Int) + 1) ≤ n.ls.length := by omega
    obtain ⟨cur, hcur⟩ : ∃ cur, (ckS n)[k]? = some cur := ⟨_, List.getElem?_eq_getElem (by omega)⟩
    obtain ⟨lst, hlst⟩ : ∃ lst, (ckS n)[(ckS n).length - 1]? = some lst := ⟨_, List.getElem?_eq_getElem (by omega)⟩
    have hsq := ck_sq hE hkl (by omega) hcur
    have hz : 0 ≤ shSize cur ∧ shSize cur ≤ 128 := by
      unfold shSize
      split
      · rename_i h
        have := shMul h
        omega
      · omega
    apply Sym.skip
    apply thenS.nx
    apply Sym.seq
    apply Sym.regionL
    refine z_s1 ?_
    rw [hk]
    have k1 := fnCkShapes n; refine z_go ?_
    apply Sym.cond
    · rfl
    · intro hbad
      exfalso
      simp [hE, l2] at hbad
      omega
    · intro _
      have ht : (n.ls.take k).length ≤ 8 := by simp; omega
      have hd : (n.ls.drop k).length ≤ 8 := by simp; omega
      refine z_go ?_
      refine Sym.drawFP (e := 26) rfl [0, 1, 3, 4, 5, 6, 8, 9, 11, 12, 13, 14, 2, 7, 10, 15, 16, 17, 18] 17 18 [12, 13, 14, 15] (by kernel_rfl) (by kernel_rfl) z_perm (by kernel_rfl) (by kernel_rfl) (by kernel_rfl) rfl rfl rfl (by kernel_rfl) rfl rfl rfl ?_
      simp only [List.take_succ_cons, List.take_zero]
      have b1 : RowH 53 := .mk; have a1 : AppH encLy [] (n.ls.take k) := .mk; have a2 : AppH encLy (n.ls.take k) [sq] := .mk; have a3 : AppH encLy (n.ls.take k ++ [sq]) (n.ls.drop k) := .mk; refine z_xgo ?_
      ((with_reducible apply XTo.read1); rfl; exact z_gd; exact MOp.allocAny rfl; exact rfl)
      (with_reducible apply XTo.done)
      refine drawF_store z_ev z_ev rfl rfl rfl rfl rfl z_wr z_nrm ?_
      ((apply Sym.ice encLy 1 (n.ls.take k ++ [sq] ++ n.ls.drop k)); rfl; rfl; (rw [hc]; first | exact Nat.zero_le _ | decide); (first | (simp only [TM.ice, TM.argsD, Hp.ice, D.ice, D.iceL, D.iceL_p, Nat.reduceBEq, Nat.beq, cond_true, cond_false, List.set_cons_zero, List.set_cons_succ, List.length_nil, List.length_cons, Nat.beq_refl]; try exact rfl) | exact rfl); (first | (simp only [TM.ice, TM.argsD, Hp.ice, D.ice, D.iceL, D.iceL_p, Nat.reduceBEq, Nat.beq, cond_true, cond_false, List.set_cons_zero, List.set_cons_succ, List.length_nil, List.length_cons, Nat.beq_refl]; try exact rfl) | exact rfl))
      have k1 := fnCkSums n; have k2 := fnCkShapes (ntSq n k); have k3 := fnRShSize cur; refine z_go ?_
      apply Sym.cond
      · rfl
      · intro hbig
        rw [if_pos (by simpa using hbig)] at hsq
        obtain ⟨e1, e2⟩ := hsq
        refine z_go ?_
        with_reducible first | apply Fin.rt | apply Fin.nx
        refine .cons (.tmp rfl (.of (.of ?_))) .nil
        simp [D.toV, e1, e2]
      · intro hbig
        rw [if_neg (by simpa using hbig)] at hsq
        obtain ⟨e1, e2, e3, e4, e5, e6, e7⟩ := hsq
        have q1 : (ckS n)[(((ckS n).length : Int) - 1).toNat]? = some lst := by
          rw [← hlst]
          congr 1
          omega
        have q2 : (ckS (ntSq n k))[(((ckS (ntSq n k)).length : Int) - 1).toNat]? = some lst := by
          rw [← hlst, ← e3]
          congr 1
          omega
        have q3 : (ckS (ntSq n k))[((k : Int) + 1).toNat]? = some cur := e5
        clear k1 k2 k3
        have k1 := fnCkSums (ntSq n k); have k2 := fnRShSize cur; refine z_go ?_
        simp only [List.append_eq, List.cons_append, List.nil_append]
        refine z_go ?_
        with_reducible first | apply Fin.rt | apply Fin.nx
        refine .cons (.tmp rfl (.of (.of ?_))) .nil
        simp [D.toV, e1, e2, e6, e7]
end Go.Proofs.Ytblabchnpkofgaa
