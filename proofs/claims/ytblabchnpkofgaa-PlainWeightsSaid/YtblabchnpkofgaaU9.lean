/- Layer 7's laws: the walks of PlainLinear and PlainWeights. -/
import Derived.Test.YtblabchnpkofgaaU8
set_option linter.unusedSimpArgs false
set_option linter.unusedVariables false
namespace Go.Proofs.Ytblabchnpkofgaa
open Go.RowKit Go.Sy
set_option maxHeartbeats 4000000 in
theorem PlainLinear_fn (n : Nt) (i : Int) (xs ys ws : List Int) (kq : Int) (hi : 0 ≤ i ∧ i ≤ 255) : Fn1 Try.prog 16 [ntV n, .x (.int .u8 i), V.list encU xs, V.list encU ys, V.list encU ws, uV kq] (.b true) := by
  refine Fn1.of (rs := [.b true]) (res := [.tmp 12]) Try.call16 Try.func16 rfl Try.ntmps16 rfl (by simp) fun c hc => ?_
  obtain ⟨k, hk, hk7⟩ := mod8 hi
  by_cases hkl : k < n.ls.length
  · obtain ⟨el, hel⟩ : ∃ el, n.ls[k]? = some el := ⟨_, List.getElem?_eq_getElem hkl⟩
    have k1 := fnHead7; refine z_go ?_
    rw [hk]
    have k1 := fnGreat7 n [xs, ys, ws] (by simp); refine z_go ?_
    apply Sym.cond
    · rfl
    · intro _
      refine z_go ?_
      with_reducible first | apply Fin.rt | apply Fin.nx
      exact (.cons (.tmp rfl (.of (.of rfl))) .nil)
    · intro h
      simp only [Bool.or_eq_false_iff, decide_eq_false_iff_not, bne_eq_false_iff_eq, beq_eq_false_iff_ne] at h
      obtain ⟨⟨⟨hg, hxy⟩, _⟩, h2⟩ := h
      have hxy : xs.length = ys.length := by omega
      have hlx := great7_len hg xs (by simp)
      have hly := great7_len hg ys (by simp)
      have ka := fnLayer n k xs ws
      have kb := fnLayer n k ys ws
      have kc := fnLayer n k (addL xs ys) ws
      have kd := fnLayer n k (scaleL kq xs) ws
      obtain ⟨e1, e2⟩ := la_addX hel h2 hxy ws kq
      obtain ⟨s1, m1⟩ := laT_shape n k ys ws xs ws hxy.symm rfl
      have s2 := (laT_shape n k (addL xs ys) ws xs ws (by simp [addL, hxy]) rfl).1
      have s3 := (laT_shape n k (scaleL kq xs) ws xs ws (by simp [scaleL]) rfl).1
      have l1 := laT_len n k xs ws
      have l2 := laT_len n k ys ws
      have l3 := laT_len n k (addL xs ys) ws
      have l4 := laT_len n k (scaleL kq xs) ws
      generalize laT n k xs ws = A at *
      generalize laT n k ys ws = B at *
      generalize laT n k (addL xs ys) ws = C at *
      generalize laT n k (scaleL kq xs) ws = E at *
      have k1 := ka; have k2 := kb; have k3 := kc; have k4 := kd; have k5 := fnAddU xs ys (by omega) (by omega); have k6 := fnScaleU kq xs (by omega); refine z_go ?_
      apply Sym.cond
      · rfl
      · intro hbad
        exfalso
        rw [s1, s2, s3] at hbad
        simp at hbad
      · intro _
        have k1 := fnAddU A.1 B.1 (by omega) (by omega); have k2 := fnSameU C.1 (addL A.1 B.1) (by omega); have k3 := fnScaleU kq A.1 (by omega); have k4 := fnSameU E.1 (scaleL kq A.1) (by omega); refine z_go ?_
        with_reducible first | apply Fin.rt | apply Fin.nx
        refine .cons (.tmp rfl (.of (.of ?_))) .nil
        simp [D.toV, e1, e2, m1]
  · have kg := fnGreat7 n [xs, ys, ws] (by simp)
    have hb : decide ((k : Int) ≥ (n.ls.length : Int)) = true := by simp; omega
    have k1 := fnHead7; refine z_go ?_
    rw [hk]
    have k1 := kg
    iterate 19 ((with_reducible apply SymL.opr); exact z_gd; exact z_mop; exact rfl)
    iterate 4 ((with_reducible apply SymL.opr); exact z_gd; exact MOp.off (by rw [hb, Bool.or_true]; rfl); exact rfl)
    ((with_reducible apply SymL.opr); exact z_gd; ((with_reducible apply MOp.pickOrT); exact z_ev; rw [hb, Bool.or_true]); exact rfl)
    refine z_go ?_
    apply Sym.cond
    · rfl
    · intro _
      refine z_go ?_
      with_reducible first | apply Fin.rt | apply Fin.nx
      exact (.cons (.tmp rfl (.of (.of rfl))) .nil)
    · intro h
      cases h
set_option maxHeartbeats 4000000 in
theorem PlainWeights_fn (n : Nt) (i : Int) (xs ws vs : List Int) (kq : Int) (hi : 0 ≤ i ∧ i ≤ 255) : Fn1 Try.prog 17 [ntV n, .x (.int .u8 i), V.list encU xs, V.list encU ws, V.list encU vs, uV kq] (.b true) := by
  refine Fn1.of (rs := [.b true]) (res := [.tmp 12]) Try.call17 Try.func17 rfl Try.ntmps17 rfl (by simp) fun c hc => ?_
  obtain ⟨k, hk, hk7⟩ := mod8 hi
  have k1 := fnHead7; have k2 := fnGreat7 n [xs, ws, vs] (by simp); refine z_go ?_
  rw [hk]
  apply Sym.cond
  · rfl
  · intro _
    refine z_go ?_
    with_reducible first | apply Fin.rt | apply Fin.nx
    exact (.cons (.tmp rfl (.of (.of rfl))) .nil)
  · intro h
    simp only [Bool.or_eq_false_iff, decide_eq_false_iff_not, bne_eq_false_iff_eq] at h
    obtain ⟨⟨hg, hwv⟩, hkl⟩ := h
    have hwv : ws.length = vs.length := by omega
    have hlw := great7_len hg ws (by simp)
    have hlv := great7_len hg vs (by simp)
    obtain ⟨el, hel⟩ : ∃ el, n.ls[k]? = some el := ⟨_, List.getElem?_eq_getElem (by omega)⟩
    have ka := fnLayer n k xs ws
    have kb := fnLayer n k xs vs
    have kc := fnLayer n k xs (addL ws vs)
    have kd := fnLayer n k xs (scaleL kq ws)
    have hadd : (addL ws vs).length = ws.length := by simp [addL, hwv]
    have hsc : (scaleL kq ws).length = ws.length := by simp [scaleL]
    have f1 := fun hk => la_freeW (n := n) (k := k) hel hk xs (w := vs) (v := ws) hwv.symm
    have f2 := fun hk => la_freeW (n := n) (k := k) hel hk xs (w := addL ws vs) (v := ws) hadd
    have f3 := fun hk => la_freeW (n := n) (k := k) hel hk xs (w := scaleL kq ws) (v := ws) hsc
    have e1 := fun hk => la_addW (n := n) (k := k) hel hk xs hwv kq
    have s1 := (laT_shape n k xs vs xs ws rfl hwv.symm).1
    have s2 := (laT_shape n k xs (addL ws vs) xs ws rfl hadd).1
    have s3 := (laT_shape n k xs (scaleL kq ws) xs ws rfl hsc).1
    have l1 := laT_len n k xs ws
    have l2 := laT_len n k xs vs
    have l3 := laT_len n k xs (addL ws vs)
    have l4 := laT_len n k xs (scaleL kq ws)
    generalize laT n k xs ws = A at *
    generalize laT n k xs vs = B at *
    generalize laT n k xs (addL ws vs) = C at *
    generalize laT n k xs (scaleL kq ws) = E at *
    have k1 := ka; have k2 := kb; have k3 := kc; have k4 := kd; have k5 := fnAddU ws vs (by omega) (by omega); have k6 := fnScaleU kq ws (by omega); refine z_go ?_
    apply Sym.cond
    · rfl
    · intro hbad
      exfalso
      rw [s1, s2, s3] at hbad
      simp at hbad
    · intro _
      refine z_go ?_
      apply Sym.cond
      · rfl
      · intro hkk
        have hkk : el.kind = 2 ∨ el.kind = 3 := by simpa using hkk
        have g1 := f1 hkk
        have g2 := f2 hkk
        have g3 := f3 hkk
        have k1 := fnSameU A.1 B.1 (by omega); have k2 := fnSameU C.1 A.1 (by omega); have k3 := fnSameU E.1 A.1 (by omega); refine z_go ?_
        with_reducible first | apply Fin.rt | apply Fin.nx
        refine .cons (.tmp rfl (.of (.of ?_))) .nil
        simp [D.toV, g1, g2, g3]
      · intro hkk
        have hkk : ¬ (el.kind = 2 ∨ el.kind = 3) := by
          simp at hkk
          omega
        obtain ⟨g1, g2⟩ := e1 hkk
        have k1 := fnAddU A.1 B.1 (by omega) (by omega); have k2 := fnSameU C.1 (addL A.1 B.1) (by omega); have k3 := fnScaleU kq A.1 (by omega); have k4 := fnSameU E.1 (scaleL kq A.1) (by omega); refine z_go ?_
        with_reducible first | apply Fin.rt | apply Fin.nx
        refine .cons (.tmp rfl (.of (.of ?_))) .nil
        simp [D.toV, g1, g2]
end Go.Proofs.Ytblabchnpkofgaa
