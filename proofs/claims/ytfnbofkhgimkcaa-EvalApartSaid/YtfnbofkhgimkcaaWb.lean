/- Layer 13's laws: the walk of EvalLast. -/
import Derived.Test.YtfnbofkhgimkcaaWa
set_option linter.unusedSimpArgs false
set_option linter.unusedVariables false
namespace Go.Proofs.Ytfnbofkhgimkcaa
open Go.RowKit Go.Sy
theorem line_no {n : Nt} {who s st : Int} {xs ws : List Int} (h : ¬ stOk n st) : lineT n who s st xs ws = ([], false) := if_neg fun hh => h hh.1.1
theorem next_no {n : Nt} {who s st : Int} {xs ws : List Int} (h : ¬ stOk n st) : nextT n who s st xs ws = ([], false) := if_neg fun hh => h hh.1
set_option maxRecDepth 100000 in
set_option maxHeartbeats 8000000 in
theorem EvalLast_fn (n : Nt) (who s : Int) (xs us ws : List Int) : Fn1 Try.prog 7 [ntV n, .i who, uV s, V.list encU xs, V.list encU us, V.list encU ws] (.b true) := by
  refine Fn1.of (rs := [.b true]) (res := [.tmp 12]) Try.call7 Try.func7 rfl Try.ntmps7 rfl (by simp) fun c hc => ?_
  have k1 := fnHead13; have k2 := fnRSums n; have k3 := fnGreat13 n [xs, us, ws] (by simp); have k4 := fnRRight n; refine z_go ?_
  apply Sym.cond
  · rfl
  · intro _
    refine z_go ?_
    with_reducible first | apply Fin.rt | apply Fin.nx
    exact (.cons (.tmp rfl (.of (.of rfl))) .nil)
  · intro hg
    have hE : ckE n = 0 := by
      simp at hg
      exact hg.2
    have hg : great7 n [xs, us, ws] = false := by
      simp at hg
      exact hg.1
    have hn := great7_n hg
    have hl := great7_len hg
    have hxl := hl xs (by simp)
    have hul := hl us (by simp)
    have hwl := hl ws (by simp)
    clear hl hg k1 k2 k3 k4
    have hsl := stA_len n
    have hsb : (stA n).length ≤ 1000 := Nat.le_trans (stI_len n _) (by omega)
    have q1 := fnLine n who s ((stA n).length : Nat) xs ws (by omega)
    have q2 := fnNext n who s ((stA n).length : Nat) xs us (by omega)
    have q3 := fnLine n who s (((stA n).length : Nat) + 1) xs ws (by omega)
    have q4 := fnNext n who s (((stA n).length : Nat) + 1) xs us (by omega)
    have q5 := fnLine n who s (-1) xs ws (by omega)
    have hok : stOk n ((stA n).length : Nat) := ⟨hE, by omega, by omega⟩
    have hn1 : ¬ stOk n (((stA n).length : Nat) + 1) := fun h => by have := h.2.2; omega
    have hn2 : ¬ stOk n (-1) := fun h => by have := h.2.1; omega
    rw [line_no hn1] at q3
    rw [next_no hn1] at q4
    rw [line_no hn2] at q5
    dsimp only at q3 q4 q5
    have hL : (lnM n ((stA n).length : Nat)).2 = inT n ((stA n).length : Nat) := by
      rw [hsl, lnM, if_pos ⟨hE, rfl⟩, inT_end hE]
    have hb := inT_b n ((stA n).length : Nat)
    generalize hI : inT n ((stA n).length : Nat) = I at *
    have e1 : lineT n who s ((stA n).length : Nat) xs ws = if (xs.length : Int) = I ∧ (ws.length : Int) = sumW (ckL n) then (xs, true) else ([], false) := by
      by_cases hc1 : (xs.length : Int) = I ∧ (ws.length : Int) = sumW (ckL n)
      · rw [if_pos hc1, lineT, if_pos ⟨⟨hok, by rw [hI]; exact hc1.1⟩, hc1.2⟩, if_pos (by omega)]
      · rw [if_neg hc1, lineT, if_neg (fun h => hc1 ⟨by rw [← hI]; exact h.1.2, h.2⟩)]
    have e2 : nextT n who s ((stA n).length : Nat) xs us = if (xs.length : Int) = I ∧ (us.length : Int) = xs.length then (addL xs us, true) else ([], false) := by
      by_cases hc1 : (xs.length : Int) = I ∧ (us.length : Int) = xs.length
      · rw [if_pos hc1, nextT, if_pos ⟨hok, by rw [hL]; omega, by rw [hL]; omega⟩, if_pos (by omega)]
      · rw [if_neg hc1, nextT, if_neg (fun h => hc1 ⟨by rw [← hL]; exact h.2.1, by have := h.2.1; have := h.2.2; omega⟩)]
    rw [e1] at q1
    rw [e2] at q2
    have ki := fnIn n ((stA n).length : Nat) (by omega)
    rw [hI] at ki
    clear e1 e2 hI hL hok hn1 hn2 hE
    have w2 := fnSameU (addL xs us) (addL xs us) (by simp [addL]; omega)
    have w3 := fnSameU xs xs (by omega)
    have w4 := fnSameU ([] : List Int) (addL xs us) (by simp)
    have w5 := fnSameU ([] : List Int) xs (by simp)
    rw [beq_self_eq_true] at w2 w3
    by_cases hc1 : (xs.length : Int) = I ∧ (ws.length : Int) = sumW (ckL n)
    · rw [if_pos hc1] at q1
      by_cases hc2 : (xs.length : Int) = I ∧ (us.length : Int) = xs.length
      · rw [if_pos hc2] at q2
        dsimp only at q1 q2
        have k1 := q1; have k2 := q2; have k3 := q3; have k4 := q4; have k5 := q5; have k6 := ki; have k7 := fnRGStages n (by omega); refine z_go ?_
        apply Sym.cond
        · rfl
        · intro h
          exfalso
          simp at h
          omega
        · intro _
          clear k1 k2 k3 k4 k5 k6 k7
          have k1 := fnAddU xs us (by omega) (by omega); have k2 := w3; have k3 := w2; refine z_go ?_
          with_reducible first | apply Fin.rt | apply Fin.nx
          refine .cons (.tmp rfl (.of (.of ?_))) .nil
          simp [D.toV]
      · rw [if_neg hc2] at q2
        dsimp only at q1 q2
        have k1 := q1; have k2 := q2; have k3 := q3; have k4 := q4; have k5 := q5; have k6 := ki; have k7 := fnRGStages n (by omega); refine z_go ?_
        apply Sym.cond
        · rfl
        · intro h
          exfalso
          simp at h
          omega
        · intro _
          clear k1 k2 k3 k4 k5 k6 k7
          have k1 := fnAddU xs us (by omega) (by omega); have k2 := w3; have k3 := w4; refine z_go ?_
          with_reducible first | apply Fin.rt | apply Fin.nx
          refine .cons (.tmp rfl (.of (.of ?_))) .nil
          simp [D.toV]
    · rw [if_neg hc1] at q1
      by_cases hc2 : (xs.length : Int) = I ∧ (us.length : Int) = xs.length
      · rw [if_pos hc2] at q2
        dsimp only at q1 q2
        have k1 := q1; have k2 := q2; have k3 := q3; have k4 := q4; have k5 := q5; have k6 := ki; have k7 := fnRGStages n (by omega); refine z_go ?_
        apply Sym.cond
        · rfl
        · intro h
          exfalso
          simp at h
          omega
        · intro _
          clear k1 k2 k3 k4 k5 k6 k7
          have k1 := fnAddU xs us (by omega) (by omega); have k2 := w5; have k3 := w2; refine z_go ?_
          with_reducible first | apply Fin.rt | apply Fin.nx
          refine .cons (.tmp rfl (.of (.of ?_))) .nil
          simp [D.toV]
      · rw [if_neg hc2] at q2
        dsimp only at q1 q2
        have k1 := q1; have k2 := q2; have k3 := q3; have k4 := q4; have k5 := q5; have k6 := ki; have k7 := fnRGStages n (by omega); refine z_go ?_
        apply Sym.cond
        · rfl
        · intro h
          exfalso
          simp at h
          omega
        · intro _
          clear k1 k2 k3 k4 k5 k6 k7
          have k1 := fnAddU xs us (by omega) (by omega); have k2 := w5; have k3 := w4; refine z_go ?_
          with_reducible first | apply Fin.rt | apply Fin.nx
          refine .cons (.tmp rfl (.of (.of ?_))) .nil
          simp [D.toV]
end Go.Proofs.Ytfnbofkhgimkcaa
