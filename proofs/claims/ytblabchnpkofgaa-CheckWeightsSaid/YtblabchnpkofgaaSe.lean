/- Layer 05: the walks of CheckWeights and CheckTurn. -/
import Derived.Test.YtblabchnpkofgaaSd
set_option linter.unusedSimpArgs false
set_option linter.unusedVariables false
namespace Go.Proofs.Ytblabchnpkofgaa
open Go.RowKit Go.Sy
set_option maxHeartbeats 2000000 in
theorem CheckWeights_fn (n : Nt) : Fn1 Try.prog 6 [ntV n] (.b true) := by
  refine Fn1.of (rs := [.b true]) (res := [.tmp 2]) Try.call6 Try.func6 rfl Try.ntmps6 rfl (by simp) fun c hc => ?_
  obtain ⟨hl, hsum⟩ := ckL_ok n
  have k1 := fnHead5; have k2 := fnGreat4 n; refine z_go ?_
  apply Sym.cond
  · rfl
  · intro _
    refine z_go ?_
    with_reducible first | apply Fin.rt | apply Fin.nx
    exact (.cons (.tmp rfl (.of (.of rfl))) .nil)
  · intro _
    have k1 := fnCkSums n; have k2 := fnCkRight n; refine z_go ?_
    apply Sym.cond
    · rfl
    · intro h
      have h : ¬ ckE n = 0 := by simpa using h
      obtain ⟨b1, b2, b3, b4⟩ := ck_bad h 0
      have k1 := fnCkWeights n 0; have k2 := fnCkProducts n 0; refine z_go ?_
      with_reducible first | apply Fin.rt | apply Fin.nx
      refine .cons (.tmp rfl (.of (.of ?_))) .nil
      simp [D.toV, b1, b3, b4, sumW, sumP]
    · intro h
      have h : ckE n = 0 := by simpa using h
      obtain ⟨l1, l2, l3⟩ := ck_len h
      refine z_go ?_
      refine Sym.loop (fun k s => ∃ i : Nat, i ≤ n.ls.length ∧ k = n.ls.length - i ∧ s = ⟨[(10, true, .p (.i i)), (9, true, .p (.i (sumP ((ckL n).take i)))), (8, true, .p (.i (sumW ((ckL n).take i)))), (5, true, .p (.i (sumP (ckL n)))), (4, true, .p (.i (sumW (ckL n)))), (3, true, .p (.b true)), (1, true, .ptr 0 0)], [some (ntBox n)]⟩) n.ls.length ⟨_, ⟨0, Nat.zero_le _, by simp, rfl⟩, z_wkt⟩ ?_
      rintro k s ⟨i, hi, rfl, rfl⟩
      refine z_go ?_
      apply Sym.cond
      · rfl
      · intro hlt
        simp only [decide_eq_true_eq] at hlt
        obtain ⟨el, hel⟩ : ∃ el, n.ls[i]? = some el := ⟨_, List.getElem?_eq_getElem (by omega)⟩
        obtain ⟨c1, c2, c3, c4, c5⟩ := ck_at h hel
        obtain ⟨s1, s2⟩ := ck_step n i
        have b1 := hsum i
        have b2 := hsum (i + 1)
        have k1 := fnCkWeights n i; have k2 := fnCkProducts n i; refine z_go ?_
        apply Sym.cond
        · rfl
        · intro hbad
          exfalso
          have d4 : ((ckW n i).2 == 0) = (el.kind == 2 || el.kind == 3) := by
            rw [Bool.eq_iff_iff]
            simp [c4]
          have d5 : (ckP n i == 0) = (el.kind == 3) := by
            rw [Bool.eq_iff_iff]
            simp [c5]
          simp [c1, d4, d5] at hbad
          omega
        · intro _
          refine z_go ?_
          refine ⟨_, ?_, _, ⟨i + 1, by omega, rfl, rfl⟩, ?_⟩
          · omega
          · rw [s1, s2]
            exact z_wkt
      · intro hge
        simp only [decide_eq_false_iff_not] at hge
        obtain rfl : i = n.ls.length := by omega
        have e1 : (ckL n).take n.ls.length = ckL n := List.take_of_length_le (by omega)
        have b1 := hsum n.ls.length
        rw [e1] at b1
        rw [e1]
        refine z_go ?_
        with_reducible first | apply Fin.rt | apply Fin.nx
        refine .cons (.tmp rfl (.of (.of ?_))) .nil
        simp [D.toV, b1]
set_option maxHeartbeats 2000000 in
theorem CheckTurn_fn (n : Nt) : Fn1 Try.prog 4 [ntV n] (.b true) := by
  refine Fn1.of (rs := [.b true]) (res := [.tmp 2]) Try.call4 Try.func4 rfl Try.ntmps4 rfl (by simp) fun c hc => ?_
  have k1 := fnHead5; have k2 := fnGreat4 n; refine z_go ?_
  apply Sym.cond
  · rfl
  · intro _
    refine z_go ?_
    with_reducible first | apply Fin.rt | apply Fin.nx
    exact (.cons (.tmp rfl (.of (.of rfl))) .nil)
  · intro _
    have k1 := fnCkShapes n; refine z_go ?_
    apply Sym.cond
    · rfl
    · intro h
      have h : ¬ ckE n = 0 := by simpa using h
      obtain ⟨b1, b2, b3, b4⟩ := ck_bad h 0
      have k1 := fnCkRight n; refine z_go ?_
      with_reducible first | apply Fin.rt | apply Fin.nx
      refine .cons (.tmp rfl (.of (.of ?_))) .nil
      simp [D.toV, b2, h]
    · intro h
      have h : ckE n = 0 := by simpa using h
      obtain ⟨l1, l2, l3⟩ := ck_len h
      have h0 : (ckS n)[0]? = some n.inp := by rw [show ckS n = _ from if_pos h]; rfl
      have k1 := fnCkRight n; refine z_go ?_
      apply Sym.cond
      · rfl
      · intro hbad
        exfalso
        simp [l2, h] at hbad
      · intro _
        refine z_go ?_
        refine Sym.loop (fun k s => ∃ i : Nat, i ≤ n.ls.length ∧ k = n.ls.length - i ∧ s = ⟨[(6, true, .p (.i i)), (4, true, .p (V.list encSh (ckS n))), (3, true, .p (.b true)), (1, true, .ptr 0 0)], [some (ntBox n)]⟩) n.ls.length ⟨_, ⟨0, Nat.zero_le _, by simp, rfl⟩, z_wkt⟩ ?_
        rintro k s ⟨i, hi, rfl, rfl⟩
        refine z_go ?_
        apply Sym.cond
        · rfl
        · intro hlt
          simp only [decide_eq_true_eq] at hlt
          obtain ⟨el, hel⟩ : ∃ el, n.ls[i]? = some el := ⟨_, List.getElem?_eq_getElem (by omega)⟩
          obtain ⟨cur, g1, g2, g3, g4, g5, g6⟩ := ck_fit h hel
          have g7 := (out_bounds g2 g3).1
          refine z_go ?_
          apply Sym.cond
          · rfl
          · intro hk
            have hk : el.kind = 1 := by simpa using hk
            rw [fits1 hk] at g6 g7
            refine z_go ?_
            (apply Sym.drawXL [14] (by kernel_rfl) (by kernel_rfl) (by kernel_rfl))
            have k1 := fnRConv cur el.out el.size el.step; refine z_xgo ?_
            have f2 : (ckS n)[((i : Int) + 1).toNat]? = some (shConv cur el.out el.size el.step).1 := g6
            have f1 : shRight (shConv cur el.out el.size el.step).1 = true := g7
            have k1 := fnRShRight (shConv cur el.out el.size el.step).1; refine z_go ?_
            apply Sym.cond
            · rfl
            · intro hbad
              exfalso
              simp [f1] at hbad
            · intro _
              refine z_go ?_
              refine ⟨_, ?_, _, ⟨i + 1, by omega, rfl, rfl⟩, z_wkt⟩
              omega
          · intro k1
            have k1 : ¬ el.kind = 1 := by simpa using k1
            refine z_go ?_
            apply Sym.cond
            · rfl
            · intro hk
              have hk : el.kind = 3 := by simpa using hk
              rw [fits3 hk] at g6 g7
              refine z_go ?_
              (apply Sym.drawXL [10] (by kernel_rfl) (by kernel_rfl) (by kernel_rfl))
              have k1 := fnRPool cur el.size; refine z_xgo ?_
              have f2 : (ckS n)[((i : Int) + 1).toNat]? = some (shPool cur el.size).1 := g6
              have f1 : shRight (shPool cur el.size).1 = true := g7
              have k1 := fnRShRight (shPool cur el.size).1; refine z_go ?_
              apply Sym.cond
              · rfl
              · intro hbad
                exfalso
                simp [f1] at hbad
              · intro _
                refine z_go ?_
                refine ⟨_, ?_, _, ⟨i + 1, by omega, rfl, rfl⟩, z_wkt⟩
                omega
            · intro k3
              have k3 : ¬ el.kind = 3 := by simpa using k3
              refine z_go ?_
              apply Sym.cond
              · rfl
              · intro hk
                have hk : el.kind = 4 := by simpa using hk
                have e4 : (outOf cur el).1 = ⟨el.out, 1, 1⟩ := by
                  rw [fits4 hk, Bool.and_eq_true, decide_eq_true_eq, decide_eq_true_eq] at g3
                  simp only [outOf, hk, if_false, Int.reduceEq]
                  rw [if_neg]
                  simp only [Bool.or_eq_true, decide_eq_true_eq]
                  omega
                rw [e4] at g6 g7
                refine z_go ?_
                have f2 : (ckS n)[((i : Int) + 1).toNat]? = some (⟨el.out, 1, 1⟩ : Sh) := g6
                have f1 : shRight (⟨el.out, 1, 1⟩ : Sh) = true := g7
                have k1 := fnRShRight (⟨el.out, 1, 1⟩ : Sh); refine z_go ?_
                apply Sym.cond
                · rfl
                · intro hbad
                  exfalso
                  simp [f1] at hbad
                · intro _
                  refine z_go ?_
                  refine ⟨_, ?_, _, ⟨i + 1, by omega, rfl, rfl⟩, z_wkt⟩
                  omega
              · intro k4
                have k4 : ¬ el.kind = 4 := by simpa using k4
                have hk : el.kind = 2 := by omega
                rw [fits2 hk] at g6 g7
                refine z_go ?_
                have f2 : (ckS n)[((i : Int) + 1).toNat]? = some cur := g6
                have f1 : shRight cur = true := g7
                have k1 := fnRShRight cur; refine z_go ?_
                apply Sym.cond
                · rfl
                · intro hbad
                  exfalso
                  simp [f1] at hbad
                · intro _
                  refine z_go ?_
                  refine ⟨_, ?_, _, ⟨i + 1, by omega, rfl, rfl⟩, z_wkt⟩
                  omega
        · intro hge
          refine z_go ?_
          with_reducible first | apply Fin.rt | apply Fin.nx
          exact (.cons (.tmp rfl (.of (.of rfl))) .nil)
end Go.Proofs.Ytblabchnpkofgaa
