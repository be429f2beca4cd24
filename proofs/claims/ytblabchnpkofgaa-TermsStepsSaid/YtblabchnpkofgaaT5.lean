/- Layer 6: terms.of, Terms, Parts. -/
import Derived.Test.YtblabchnpkofgaaT4
set_option linter.unusedSimpArgs false
set_option linter.unusedVariables false
namespace Go.Proofs.Ytblabchnpkofgaa
open Go.RowKit Go.Sy
theorem shSize_b (s : Sh) : 0 ≤ shSize s ∧ shSize s ≤ 128 := by
  unfold shSize
  split
  · rename_i h
    have := shMul h
    omega
  · omega
/-- is there such a layer? -/
def tOk (n : Nt) (i : Int) : Bool := !((ckE n != 0 || decide (i < 0)) || decide (i ≥ (n.ls.length : Int)))
theorem tOk_iff {n : Nt} {i : Int} : tOk n i = true ↔ ckE n = 0 ∧ 0 ≤ i ∧ i < n.ls.length := by
  simp [tOk]
  omega
theorem tOk_at {n : Nt} {i : Int} (h : tOk n i = true) : ∃ (j : Nat) (el : Ly) (cur : Sh), i = j ∧ ckE n = 0 ∧ n.ls[j]? = some el ∧ (ckS n)[j]? = some cur ∧ shRight cur = true ∧ (outOf cur el).2 = true ∧ (1 ≤ el.kind ∧ el.kind ≤ 4) ∧ (ckL n)[j]? = some (lxOf cur el) ∧ (ckS n)[j + 1]? = some (outOf cur el).1 ∧ (0 ≤ (ckW n j).1 ∧ (ckW n j).1 ≤ 512) ∧ shRight (outOf cur el).1 = true := by
  obtain ⟨h1, h2, h3⟩ := tOk_iff.1 h
  obtain ⟨j, rfl⟩ : ∃ j : Nat, i = j := ⟨i.toNat, by omega⟩
  obtain ⟨el, hel⟩ : ∃ el, n.ls[j]? = some el := ⟨_, List.getElem?_eq_getElem (by omega)⟩
  obtain ⟨cur, a1, a2, a3, a4, a5, a6⟩ := ck_fit h1 hel
  have hw := (ck_at h1 hel).1
  obtain ⟨_, hsum⟩ := ckL_ok n
  have := hsum j
  exact ⟨j, el, cur, rfl, h1, hel, a1, a2, a3, a4, a5, a6, by omega, (out_bounds a2 a3).1⟩
theorem fnTofOk {n : Nt} {j : Nat} {el : Ly} {cur : Sh} (hE : ckE n = 0) (hel : n.ls[j]? = some el) (hc1 : (ckS n)[j]? = some cur) (hc2 : (ckS n)[j + 1]? = some (outOf cur el).1) :
    Fn1 Try.prog 66 [ntV n, .i j] (.tup [lookV el cur (outOf cur el).1 (ckW n j).1, .b true]) := by
  refine Fn1.of (rs := [lookV _ _ _ _, .b _]) (res := [.cell 4 92, .tmp 5]) Try.call66 Try.func66 rfl Try.ntmps66 rfl (by simp) fun c hc => ?_
  have hjl : j < n.ls.length := (List.getElem?_eq_some_iff.1 hel).1
  obtain ⟨l1, l2, l3⟩ := ck_len hE
  have k0 := fnCkShapes n
  rw [hE] at k0
  have k1 := k0; refine z_go ?_
  apply Sym.cond
  · rfl
  · intro h
    exfalso
    simp at h
    omega
  · intro _
    have hc3 : (ckS n)[((j : Int) + 1).toNat]? = some (outOf cur el).1 := hc2
    have k1 := fnCkWeights n j; refine z_go ?_
    (apply Sym.drawXL [16] (by kernel_rfl) (by kernel_rfl) (by kernel_rfl))
    refine z_xgo ?_
    refine z_go ?_
    with_reducible first | apply Fin.rt | apply Fin.nx
    exact .cons (.cellA inferInstance rfl rfl rfl (Nat.le_of_ble_eq_true rfl) (.of (.of rfl))) (.cons (.tmp rfl (.of (.of rfl))) .nil)
theorem fnTofBad {n : Nt} {i : Int} (h : tOk n i = false) :
    Fn1 Try.prog 66 [ntV n, .i i] (.tup [lookV ⟨0, 0, 0, 0⟩ shZ shZ 0, .b false]) := by
  refine Fn1.of (rs := [lookV _ _ _ _, .b _]) (res := [.cell 4 92, .tmp 5]) Try.call66 Try.func66 rfl Try.ntmps66 rfl (by simp) fun c hc => ?_
  have k1 := fnCkShapes n; refine z_go ?_
  apply Sym.cond
  · rfl
  · intro _
    refine z_go ?_
    with_reducible first | apply Fin.rt | apply Fin.nx
    exact .cons (.cellA inferInstance rfl rfl rfl (Nat.le_of_ble_eq_true rfl) (.of (.of rfl))) (.cons (.tmp rfl (.of (.of rfl))) .nil)
  · intro h2
    exfalso
    simp only [tOk, h2] at h
    cases h
/-! ### Terms -/
def tmX (x : Lx) (wt i : Int) : List Tm := if 0 ≤ i ∧ i < shSize x.out then (if x.l.kind = 1 then cvT x.inn x.out x.l wt i else if x.l.kind = 4 then dnT (shSize x.inn).toNat wt i else if x.l.kind = 2 then [⟨i, -1⟩] else []) else []
/-- the terms of a place -/
def tmT (n : Nt) (i p : Int) : List Tm := if tOk n i then (match (ckL n)[i.toNat]? with | some x => tmX x (ckW n i).1 p | none => []) else []
theorem tmT_ok {n : Nt} {j : Nat} {x : Lx} (h : tOk n j = true) (hx : (ckL n)[j]? = some x) (p : Int) : tmT n j p = tmX x (ckW n j).1 p := by
  unfold tmT
  rw [if_pos h, Int.toNat_natCast, hx]
set_option maxHeartbeats 2000000 in
theorem fnTerms (n : Nt) (i p : Int) : Fn1 Try.prog 42 [ntV n, .i i, .i p] (V.list encTm (tmT n i p)) := by
  refine Fn1.of (rs := [V.list encTm _]) (res := [.tmp 6]) Try.call42 Try.func42 rfl Try.ntmps42 rfl (by simp) fun c hc => ?_
  by_cases hok : tOk n i = true
  · obtain ⟨j, el, cur, rfl, hE, hel, g1, g2, g3, g4, g5, g6, g7, g8⟩ := tOk_at hok
    have hz := shSize_b (outOf cur el).1
    rw [tmT_ok hok g5]
    have k1 := fnTofOk hE hel g1 g6; have k2 := fnShSize (outOf cur el).1; refine z_go ?_
    apply Sym.cond
    · rfl
    · intro h
      rw [show tmX (lxOf cur el) (ckW n j).1 p = [] by
        unfold tmX
        rw [if_neg]
        simp at h
        simp only
        omega]
      refine z_go ?_
      with_reducible first | apply Fin.rt | apply Fin.nx
      exact .cons (.tmp rfl (.of (.mk rfl z_vle))) .nil
    · intro h
      have hp : 0 ≤ p ∧ p < shSize (outOf cur el).1 := by
        simp at h
        omega
      rw [show tmX (lxOf cur el) (ckW n j).1 p = _ from if_pos hp]
      simp only
      refine z_go ?_
      apply Sym.cond
      · rfl
      · intro hk
        have hk : el.kind = 1 := by simpa using hk
        rw [if_pos hk]
        have hb : shConv cur el.out el.size el.step = ((outOf cur el).1, true) := by
          rw [fits1 hk] at g3 ⊢
          rw [← g3]
        have k1 := fnLkConv el cur (outOf cur el).1 (ckW n j).1 p g2 hb g7; refine z_go ?_
        with_reducible first | apply Fin.rt | apply Fin.nx
        exact .cons (.tmp rfl (.of (.mk rfl z_vle))) .nil
      · intro k1
        have k1 : ¬ el.kind = 1 := by simpa using k1
        rw [if_neg k1]
        refine z_go ?_
        apply Sym.cond
        · rfl
        · intro hk
          have hk : el.kind = 4 := by simpa using hk
          rw [if_pos hk]
          have k1 := fnLkDense el cur (outOf cur el).1 (ckW n j).1 p g7 (by omega); refine z_go ?_
          with_reducible first | apply Fin.rt | apply Fin.nx
          exact .cons (.tmp rfl (.of (.mk rfl z_vle))) .nil
        · intro k4
          have k4 : ¬ el.kind = 4 := by simpa using k4
          rw [if_neg k4]
          refine z_go ?_
          apply Sym.cond
          · rfl
          · intro hk
            have hk : el.kind = 2 := by simpa using hk
            rw [if_pos hk]
            refine z_go ?_
            with_reducible first | apply Fin.rt | apply Fin.nx
            exact .cons (.tmp rfl (.of (.mk rfl z_vle))) .nil
          · intro k2
            have k2 : ¬ el.kind = 2 := by simpa using k2
            rw [if_neg k2]
            refine z_go ?_
            with_reducible first | apply Fin.rt | apply Fin.nx
            exact .cons (.tmp rfl (.of (.mk rfl z_vle))) .nil
  · rw [Bool.not_eq_true] at hok
    rw [show tmT n i p = [] by simp [tmT, hok]]
    have k1 := fnTofBad hok; have k2 := fnShSize shZ; refine z_go ?_
    apply Sym.cond
    · rfl
    · intro h
      refine z_go ?_
      with_reducible first | apply Fin.rt | apply Fin.nx
      exact .cons (.tmp rfl (.of (.mk rfl z_vle))) .nil
    · intro h
      exact absurd h (by simp)
/-! ### Parts -/
theorem pool_fit {a b : Sh} {size : Int} (ha : shRight a = true) (h : shPool a size = (b, true)) : shRight b = true ∧ b.c = a.c ∧ (1 ≤ size ∧ size ≤ 12) ∧ b.h * size = a.h ∧ b.w * size = a.w := by
  obtain ⟨a1, a2, a3, a4⟩ := shRight_iff.1 ha
  by_cases hc : shRight a = true ∧ 1 ≤ size ∧ a.h.tmod size = 0 ∧ a.w.tmod size = 0
  · obtain ⟨_, h1, h2, h3⟩ := hc
    rw [shPool_t ⟨ha, h1, h2, h3⟩] at h
    simp only [Prod.mk.injEq, and_true] at h
    have p1 := pool1_1 ⟨h1, h2⟩ a2
    have p2 := pool1_1 ⟨h1, h3⟩ a3
    rw [w64_in (by omega), w64_in (by omega)] at h
    subst h
    have e1 := Int.tdiv_mul_cancel_of_tmod_eq_zero h2
    have e2 := Int.tdiv_mul_cancel_of_tmod_eq_zero h3
    have hs : size ≤ a.h := by
      have : 1 * size ≤ a.h.tdiv size * size := Int.mul_le_mul_of_nonneg_right (by omega) (by omega)
      omega
    refine ⟨shRight_le ha rfl (by simp only; omega) (by simp only; omega), rfl, by omega, e1, e2⟩
  · rw [shPool_f hc] at h
    simp at h
def ptX (x : Lx) (i : Int) : List Int := if x.l.kind = 3 then (if (shOf x.out i).2 then (List.range (x.l.size.toNat * x.l.size.toNat)).map (plP x.inn x.l.size.toNat (shOf x.out i).1.1 ((shOf x.out i).1.2.1 * x.l.size) ((shOf x.out i).1.2.2 * x.l.size)) else []) else []
/-- the parts of a place -/
def ptT (n : Nt) (i p : Int) : List Int := if tOk n i then (match (ckL n)[i.toNat]? with | some x => ptX x p | none => []) else []
theorem ptT_ok {n : Nt} {j : Nat} {x : Lx} (h : tOk n j = true) (hx : (ckL n)[j]? = some x) (p : Int) : ptT n j p = ptX x p := by
  unfold ptT
  rw [if_pos h, Int.toNat_natCast, hx]
set_option maxHeartbeats 2000000 in
theorem fnParts (n : Nt) (i p : Int) : Fn1 Try.prog 45 [ntV n, .i i, .i p] (V.list encI (ptT n i p)) := by
  refine Fn1.of (rs := [V.list encI _]) (res := [.tmp 6]) Try.call45 Try.func45 rfl Try.ntmps45 rfl (by simp) fun c hc => ?_
  by_cases hok : tOk n i = true
  · obtain ⟨j, el, cur, rfl, hE, hel, g1, g2, g3, g4, g5, g6, g7, g8⟩ := tOk_at hok
    rw [ptT_ok hok g5]
    have k1 := fnTofOk hE hel g1 g6; have k2 := fnShOf (outOf cur el).1 p; refine z_go ?_
    apply Sym.cond
    · rfl
    · intro h
      rw [show ptX (lxOf cur el) p = [] by
        unfold ptX
        simp only
        by_cases hk : el.kind = 3
        · simp [hk] at h
          rw [if_pos hk, h]
          rfl
        · rw [if_neg hk]]
      refine z_go ?_
      with_reducible first | apply Fin.rt | apply Fin.nx
      exact .cons (.tmp rfl (.of (.mk rfl z_vle))) .nil
    · intro h
      simp only [Bool.or_eq_false_iff, Bool.not_eq_false', bne_eq_false_iff_eq] at h
      obtain ⟨⟨_, h⟩, hk⟩ := h
      have hb : shPool cur el.size = ((outOf cur el).1, true) := by
        rw [fits3 hk] at g3 ⊢
        rw [← g3]
      obtain ⟨p1, p2, p3, p4, p5⟩ := pool_fit g2 hb
      obtain ⟨a1, a2, a3, a4⟩ := shRight_iff.1 g2
      obtain ⟨hin, hpos, hi⟩ := of_in g8 h
      obtain ⟨i1, i2, i3⟩ := inS_iff.1 hin
      obtain ⟨d1, d2, d3, d4⟩ := shRight_iff.1 g8
      generalize ho : (shOf (outOf cur el).1 p).1.1 = o at *
      generalize hy : (shOf (outOf cur el).1 p).1.2.1 = y at *
      generalize hx : (shOf (outOf cur el).1 p).1.2.2 = x at *
      obtain ⟨y, rfl⟩ : ∃ k : Nat, y = k := ⟨y.toNat, by omega⟩
      obtain ⟨x, rfl⟩ : ∃ k : Nat, x = k := ⟨x.toNat, by omega⟩
      obtain ⟨z, hz⟩ : ∃ k : Nat, el.size = k := ⟨el.size.toNat, by omega⟩
      rw [hz] at p3 p4 p5
      have e5 : ((y * z : Nat) : Int) + z ≤ 12 := by
        have : ((y : Int) + 1) * z ≤ (outOf cur el).1.h * z := Int.mul_le_mul_of_nonneg_right (by omega) (by omega)
        rw [Int.add_mul, Int.one_mul] at this
        rw [Int.natCast_mul]
        omega
      have e6 : ((x * z : Nat) : Int) + z ≤ 12 := by
        have : ((x : Int) + 1) * z ≤ (outOf cur el).1.w * z := Int.mul_le_mul_of_nonneg_right (by omega) (by omega)
        rw [Int.add_mul, Int.one_mul] at this
        rw [Int.natCast_mul]
        omega
      have kt := fnTimes y x z (by omega) (by omega) (by omega)
      have kw := fnWinP el cur (outOf cur el).1 (ckW n j).1 o z (y * z) (x * z) (by omega) (by omega) (by omega)
      rw [← hz] at kt kw
      rw [show ptX (lxOf cur el) p = (List.range (z * z)).map (plP cur z o ((y * z : Nat) : Int) ((x * z : Nat) : Int)) by
        unfold ptX
        simp only
        rw [if_pos hk, if_pos h, ho, hy, hx, hz, Int.toNat_natCast, Int.natCast_mul, Int.natCast_mul]]
      refine z_go ?_
      refine Sym.weak (Le.cellRow 3 0 3 1 rfl rfl rfl z_nrm) ?_
      refine z_go ?_
      (apply Sym.drawL 10 (by kernel_rfl) (by kernel_rfl))
      have k1 := kt; refine z_mt ?_
      ((with_reducible apply SymL.callM [3, 1, 2, 4] kw); exact z_ren; exact z_evf; (refine ⟨?_, ?_, ?_, ?_, trivial⟩ <;> first | exact rfl | (simp only [Box.ren, D.enc, D.renL_p]; exact rfl)); decide; exact rfl; exact rfl; exact z_wrB; exact z_dd; exact z_ren; (simp only [Hp.clean, D.clean, D.cleanL, D.cleanL_p, bne, Nat.reduceBEq, Bool.not_true, Bool.not_false, cond_true, cond_false]; exact z_ren); exact z_cln)
      refine z_go ?_
      with_reducible first | apply Fin.rt | apply Fin.nx
      exact .cons (.tmp rfl (DVr.list encI _ rfl (fun q => rfl) rfl rfl)) .nil
  · rw [Bool.not_eq_true] at hok
    rw [show ptT n i p = [] by simp [ptT, hok]]
    have k0 := fnShOf shZ p
    rw [show shOf shZ p = ((0, 0, 0), false) from if_neg (by rw [show shSize shZ = 0 from rfl]; omega)] at k0
    have k1 := fnTofBad hok; have k2 := k0; refine z_go ?_
    apply Sym.cond
    · rfl
    · intro h
      refine z_go ?_
      with_reducible first | apply Fin.rt | apply Fin.nx
      exact .cons (.tmp rfl (.of (.mk rfl z_vle))) .nil
    · intro h
      exact absurd h (by simp)
end Go.Proofs.Ytblabchnpkofgaa
