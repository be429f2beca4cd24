/- Layer 13's laws: the walks of EvalFirst and EvalLast. -/
import Derived.Test.YtfnbofkhgimkcaaW9
set_option linter.unusedSimpArgs false
set_option linter.unusedVariables false
namespace Go.Proofs.Ytfnbofkhgimkcaa
open Go.RowKit Go.Sy
theorem inp_mul {n : Nt} (hE : ckE n = 0) : shSize n.inp = n.inp.c * n.inp.h * n.inp.w ∧ (1 ≤ n.inp.c * n.inp.h ∧ n.inp.c * n.inp.h ≤ 96) ∧ (1 ≤ n.inp.c * n.inp.h * n.inp.w ∧ n.inp.c * n.inp.h * n.inp.w ≤ 128) := by
  obtain ⟨_, h2, _⟩ := ckE_ok hE
  obtain ⟨a, b, c, d⟩ := shMul h2
  exact ⟨by rw [shSize, if_pos h2], ⟨a, b⟩, ⟨c, d⟩⟩
theorem first_no {n : Nt} {xs : List Int} (h : ¬ (ckE n = 0 ∧ (xs.length : Int) = shSize n.inp)) : firstT n xs = ([], false) := if_neg h
theorem first_ok {n : Nt} {xs : List Int} (h : ckE n = 0 ∧ (xs.length : Int) = shSize n.inp) : firstT n xs = (plT n (zW n) 0 xs, true) := if_pos h
set_option maxRecDepth 100000 in
set_option maxHeartbeats 8000000 in
theorem EvalFirst_fn (n : Nt) (xs us : List Int) : Fn1 Try.prog 6 [ntV n, V.list encU xs, V.list encU us] (.b true) := by
  refine Fn1.of (rs := [.b true]) (res := [.tmp 6]) Try.call6 Try.func6 rfl Try.ntmps6 rfl (by simp) fun c hc => ?_
  have k1 := fnHead13; have k2 := fnGreat13 n [xs, us] (by simp); refine z_go ?_
  apply Sym.cond
  · rfl
  · intro _
    refine z_go ?_
    with_reducible first | apply Fin.rt | apply Fin.nx
    exact (.cons (.tmp rfl (.of (.of rfl))) .nil)
  · intro hg
    have hxu : xs.length = us.length := by
      simp at hg
      omega
    have hg : great7 n [xs, us] = false := by
      simp at hg
      exact hg.1
    have hn := great7_n hg
    have hl := great7_len hg
    have hxl := hl xs (by simp)
    have hul := hl us (by simp)
    clear hl hg
    have q1 := fnFirst n xs (by omega)
    have q2 := fnFirst n us (by omega)
    have q3 := fnFirst n (addL xs us) (by omega)
    have kr := fnRRight n
    by_cases h0 : ckE n = 0 ∧ (xs.length : Int) = shSize n.inp
    · obtain ⟨hE, hx⟩ := h0
      obtain ⟨m1, m2, m3⟩ := inp_mul hE
      rw [first_ok ⟨hE, hx⟩] at q1
      rw [first_ok ⟨hE, by omega⟩] at q2
      rw [first_ok ⟨hE, by rw [addL_len hxu]; exact hx⟩] at q3
      rw [show (ckE n == 0) = true by simpa using hE] at kr
      dsimp only at q1 q2 q3
      obtain ⟨v1, v2⟩ := plT_add (n := n) (zW n) 0 xs us hxu
      have v3 := first_fit hE hx
      have v4 := inT_b n 0
      have hstop := plT_stop (n := n) (i := 0) (zs := zW n) (xs := xs)
      rw [v1] at q3
      generalize plT n (zW n) 0 xs = A at *
      generalize plT n (zW n) 0 us = B at *
      have k1 := q1; have k2 := q2; have k3 := q3; have k4 := fnAddU xs us (by omega) (by omega); have k5 := kr; refine z_go ?_
      apply Sym.cond
      · rfl
      · intro h
        exfalso
        simp at h
        omega
      · intro _
        refine z_go ?_
        apply Sym.cond
        · rfl
        · intro h
          simp at h
        · intro _
          clear k1 k2 k3 k4 k5
          by_cases hl0 : 0 < n.ls.length
          · obtain ⟨el, hel⟩ : ∃ el, n.ls[0]? = some el := ⟨_, List.getElem?_eq_getElem hl0⟩
            have hel2 : n.ls[(0 : Int).toNat]? = some el := hel
            by_cases hk : el.kind = 3
            · have w1 := fnAddU A B (by omega) (by omega)
              have w2 := fnSameU (addL A B) (addL A B) (by rw [addL_len v2]; omega)
              have w3 := fnSameU A xs (by omega)
              have w4 := fnIn n 0 (by omega)
              rw [beq_self_eq_true] at w2
              generalize addL A B = E at *
              clear v1 v2
              have k1 := w1; have k2 := w2; have k3 := w3; have k4 := w4; refine z_go ?_
              with_reducible first | apply Fin.rt | apply Fin.nx
              refine .cons (.tmp rfl (.of (.of ?_))) .nil
              simp [D.toV, hk, ← v3]
              exact .inl hl0
            · have hA := hstop (fun el' he => by rw [hel] at he; cases he; exact hk)
              clear hstop
              have w1 := fnAddU A B (by omega) (by omega)
              have w2 := fnSameU (addL A B) (addL A B) (by rw [addL_len v2]; omega)
              have w3 := fnSameU A xs (by omega)
              have w4 := fnIn n 0 (by omega)
              rw [beq_self_eq_true] at w2
              generalize addL A B = E at *
              clear v1 v2
              have k1 := w1; have k2 := w2; have k3 := w3; have k4 := w4; refine z_go ?_
              with_reducible first | apply Fin.rt | apply Fin.nx
              refine .cons (.tmp rfl (.of (.of ?_))) .nil
              simp [D.toV, hA, ← v3]
          · have hA := hstop (fun el' he => by rw [List.getElem?_eq_none (by omega)] at he; cases he)
            clear hstop
            have hof : decide ((n.ls.length : Int) > 0) = false := decide_eq_false (by omega)
            repeat (first | with_reducible apply Sym.skip | with_reducible apply thenS.nx | with_reducible apply Sym.seq | with_reducible apply Sym.block | apply Sym.regionL)
            iterate 5 ((with_reducible apply SymL.opr); exact z_gd; exact z_mop; exact rfl)
            iterate 6 ((with_reducible apply SymL.opr); exact z_gd; exact MOp.off (by rw [hof]; rfl); exact rfl)
            ((with_reducible apply SymL.opr); exact z_gd; exact MOp.andF z_ev hof; exact rfl)
            have w1 := fnAddU A B (by omega) (by omega)
            have w2 := fnSameU (addL A B) (addL A B) (by rw [addL_len v2]; omega)
            have w3 := fnSameU A xs (by omega)
            have w4 := fnIn n 0 (by omega)
            rw [beq_self_eq_true] at w2
            generalize addL A B = E at *
            clear v1 v2
            have k1 := w1; have k2 := w2; have k3 := w3; have k4 := w4; refine z_go ?_
            with_reducible first | apply Fin.rt | apply Fin.nx
            refine .cons (.tmp rfl (.of (.of ?_))) .nil
            simp [D.toV, hA, ← v3]
    · by_cases hE : ckE n = 0
      · obtain ⟨m1, m2, m3⟩ := inp_mul hE
        have hE2 : (ckE n == 0) = true := by simpa using hE
        have hx : ¬ (xs.length : Int) = n.inp.c * n.inp.h * n.inp.w := by omega
        rw [hE2] at kr
        rw [first_no h0] at q1
        rw [first_no (show ¬ (ckE n = 0 ∧ (us.length : Int) = shSize n.inp) by omega)] at q2
        rw [first_no (show ¬ (ckE n = 0 ∧ ((addL xs us).length : Int) = shSize n.inp) by rw [addL_len hxu]; exact h0)] at q3
        dsimp only at q1 q2 q3
        have k1 := q1; have k2 := q2; have k3 := q3; have k4 := fnAddU xs us (by omega) (by omega); have k5 := kr; refine z_go ?_
        apply Sym.cond
        · rfl
        · intro h
          exfalso
          simp at h; omega
        · intro _
          refine z_go ?_
          apply Sym.cond
          · rfl
          · intro _
            refine z_go ?_
            with_reducible first | apply Fin.rt | apply Fin.nx
            exact (.cons (.tmp rfl (.of (.of rfl))) .nil)
          · intro h
            simp at h
      · have hE2 : (ckE n == 0) = false := by simpa using hE
        rw [hE2] at kr
        rw [first_no h0] at q1
        rw [first_no (show ¬ (ckE n = 0 ∧ (us.length : Int) = shSize n.inp) by omega)] at q2
        rw [first_no (show ¬ (ckE n = 0 ∧ ((addL xs us).length : Int) = shSize n.inp) by rw [addL_len hxu]; exact h0)] at q3
        dsimp only at q1 q2 q3
        have k1 := q1; have k2 := q2; have k3 := q3; have k4 := fnAddU xs us (by omega) (by omega); have k5 := kr; refine z_go ?_
        apply Sym.cond
        · rfl
        · intro h
          exfalso
          simp at h
        · intro _
          refine z_go ?_
          apply Sym.cond
          · rfl
          · intro _
            refine z_go ?_
            with_reducible first | apply Fin.rt | apply Fin.nx
            exact (.cons (.tmp rfl (.of (.of rfl))) .nil)
          · intro h
            simp at h
end Go.Proofs.Ytfnbofkhgimkcaa
