/- Layer 6: a Dense's terms, a Pool's parts. Layer 6: terms.of, Terms, Parts. Layer 6's own answer: conv, Terms, Parts, SameTerms, SameInts. Layer 6's own answer: Terms, Parts, SameTerms, SameInts; the laws' sizes. -/
import Derived.Test.YtfnbofkhgimkcaaGreatTA
set_option linter.unusedSimpArgs false
set_option linter.unusedVariables false
namespace Go.Proofs.YtfnbofkhgimkcaaGreat
open Go.RowKit Go.Sy
/-! ### a Dense's terms -/
def dnT (many : Nat) (wt i : Int) : List Tm := (List.range many).map fun j : Nat => ⟨(j : Int), wt + i * (many : Int) + (j : Int)⟩
theorem fnLkDense (l : Ly) (a b : Sh) (wt i : Int) (hw : 0 ≤ wt ∧ wt ≤ 512) (hi : 0 ≤ i ∧ i ≤ 128) : Fn1 Tryz.prog 85 [lookV l a b wt, .i i] (V.list encTm (dnT (shSize a).toNat wt i)) := by
  refine Fn1.of (rs := [V.list encTm _]) (res := [.tmp 4]) Tryz.call85 Tryz.func85 rfl Tryz.ntmps85 rfl (by simp) fun c hc => ?_
  have hz : 0 ≤ shSize a ∧ shSize a ≤ 128 := by
    unfold shSize
    split
    · rename_i h
      have := shMul h
      omega
    · omega
  obtain ⟨m, hm⟩ : ∃ m : Nat, shSize a = m := ⟨(shSize a).toNat, by omega⟩
  have hb := mulB (a := i) (b := (m : Int)) (A := 128) (B := 128) hi (by omega)
  have ks := fnShSize a
  rw [hm] at ks ⊢
  rw [Int.toNat_natCast]
  have k1 := ks; refine z_go ?_
  refine Sym.weak (Le.asRow 5 87 2 rfl rfl rfl z_nrm z_nrm) ?_
  refine Sym.loop (fun k s => ∃ j : Nat, j ≤ m ∧ k = m - j ∧ s = ⟨[(12, true, .p (.i j)), (11, true, .p (.i m)), (6, true, .p (.i m)), (5, true, .row 1 (dnT m wt i |>.take j).length), (2, true, .ptr 0 0), (1, true, .p (.i i))], [some (lookBox l a b wt), some (tmRow ((dnT m wt i).take j))]⟩) m ⟨_, ⟨0, Nat.zero_le _, by simp, rfl⟩, z_wkt⟩ ?_
  rintro k s ⟨j, hj, rfl, rfl⟩
  refine z_go ?_
  apply Sym.cond
  · rfl
  · intro hlt
    simp only [decide_eq_true_eq] at hlt
    have hlen : ((dnT m wt i).take j).length ≤ 1000 := by simp [dnT]; omega
    have hnext : (dnT m wt i).take (j + 1) = (dnT m wt i).take j ++ [⟨(j : Int), wt + i * (m : Int) + (j : Int)⟩] := by
      rw [List.take_add_one]
      congr 1
      simp [dnT, show j < m by omega]
    have a1 : AppH encTm ((dnT m wt i).take j) [⟨(j : Int), wt + i * (m : Int) + (j : Int)⟩] := .mk; refine z_go ?_
    refine ⟨_, ?_, _, ⟨j + 1, by omega, rfl, rfl⟩, ?_⟩
    · omega
    · rw [hnext]
      exact z_wkt
  · intro hge
    simp only [decide_eq_false_iff_not] at hge
    obtain rfl : j = m := by omega
    rw [List.take_of_length_le (by simp [dnT])]
    refine z_go ?_
    with_reducible first | apply Fin.rt | apply Fin.nx
    exact .cons (.tmp rfl (DVr.list encTm _ rfl (fun q => rfl) rfl rfl)) .nil
/-! ### a Pool's parts -/
abbrev encI (x : Int) : List V := [.i x]
abbrev inCell (k n : Nat) : Box := ⟨[.row k n], 54, 0⟩
abbrev inRow (l : List Int) : Box := ⟨D.enc encI l, 3, 1⟩
/-- the j-th place of a block -/
def plP (a : Sh) (z : Nat) (c y0 x0 : Int) (j : Nat) : Int := shAt a c (y0 + (j / z : Nat)) (x0 + (j % z : Nat))
set_option maxHeartbeats 2000000 in
theorem fnPartsT (l : Ly) (a b : Sh) (wt c' : Int) (y x j : Nat) (ts : List Int) (hy : y < 30) (hx : x < 30) (ht : ts.length ≤ 10000) :
    FnM Tryz.prog 89 [.p (.i j), .p (.x (cxV x y)), .ptr 0 0, .ptr 1 0, .ptr 2 0] [some (inCell 3 ts.length), some (lookBox l a b wt), some (iBox c'), some (inRow ts)] 3 (.tup [])
      [some (inCell 3 (ts ++ [shAt a c' y x]).length), some (lookBox l a b wt), some (iBox c'), some (inRow (ts ++ [shAt a c' y x]))] := by
  refine FnM.of (rs := []) (res := []) Tryz.call89 Tryz.func89 rfl Tryz.ntmps89 rfl (by simp) rfl (by simp [Hp.upTo, D.upToL, D.upTo, D.upToL_p]) fun c hro hc hdead => ?_
  refine z_go ?_
  (apply Sym.drawXL [7, 8] (by kernel_rfl) (by kernel_rfl) (by kernel_rfl))
  have k1 := fnTat a c' y x hy hx; have a1 : AppH encI ts [shAt a c' y x] := .mk; refine z_xgo ?_
  exact FinB.nxW [] z_wkt .nil
set_option maxHeartbeats 2000000 in
theorem fnWinP (l : Ly) (a b : Sh) (wt c' : Int) (z y0 x0 : Nat) (hz : 1 ≤ z ∧ z ≤ 12) (hy : y0 + z ≤ 12) (hx : x0 + z ≤ 12) :
    FnM Tryz.prog 87 [.p (.x (cxV x0 y0)), .p (.i z), .clo (.func 89) [] [.ptr 0 0, .ptr 1 0, .ptr 2 0]] [some (inCell 3 0), some (lookBox l a b wt), some (iBox c'), some (inRow [])] 3 (.tup [])
      [some (inCell 3 ((List.range (z * z)).map (plP a z c' y0 x0)).length), some (lookBox l a b wt), some (iBox c'), some (inRow ((List.range (z * z)).map (plP a z c' y0 x0)))] := by
  refine FnM.of (rs := []) (res := []) Tryz.call87 Tryz.func87 rfl Tryz.ntmps87 rfl (by simp) rfl (by simp [Hp.upTo, D.upToL, D.upTo, D.upToL_p]) fun c hro hc hdead => ?_
  have hzz := mulB (a := (z : Int)) (b := z) (A := 12) (B := 12) (by omega) (by omega)
  refine z_go ?_
  refine Sym.loop (fun k s => ∃ j : Nat, j ≤ z * z ∧ k = z * z - j ∧ s = ⟨[(10, true, .p (.i j)), (9, true, .p (.i ((z : Int) * z))), (2, true, .clo (.func 89) [] [.ptr 0 0, .ptr 1 0, .ptr 2 0]), (1, true, .p (.i z)), (0, true, .p (.x (cxV x0 y0)))], [some (inCell 3 ((List.range j).map (plP a z c' y0 x0)).length), some (lookBox l a b wt), some (iBox c'), some (inRow ((List.range j).map (plP a z c' y0 x0)))]⟩) (z * z) ⟨_, ⟨0, Nat.zero_le _, by simp, rfl⟩, z_wkt⟩ ?_
  rintro k s ⟨j, hj, rfl, rfl⟩
  refine z_go ?_
  apply Sym.cond
  · rfl
  · intro hlt
    simp only [decide_eq_true_eq] at hlt
    have hj2 : j < z * z := by
      have : ((z * z : Nat) : Int) = (z : Int) * z := by simp
      omega
    have q1 : j / z < z := Nat.div_lt_of_lt_mul hj2
    have q2 : j % z < z := Nat.mod_lt _ (by omega)
    have hz144 : z * z ≤ 144 := Nat.mul_le_mul hz.2 hz.2
    have kp := fnPlace (j / z) (j % z)
    rw [Int.natCast_ediv, Int.natCast_emod] at kp
    have kt := fnPartsT l a b wt c' (y0 + j / z) (x0 + j % z) j ((List.range j).map (plP a z c' y0 x0)) (by omega) (by omega) (by simp; omega)
    rw [show shAt a c' ((y0 + j / z : Nat) : Int) ((x0 + j % z : Nat) : Int) = plP a z c' y0 x0 j from rfl] at kt
    refine z_go ?_
    (apply Sym.drawL 11 (by kernel_rfl) (by kernel_rfl))
    have k1 := kp
    repeat ((with_reducible apply MTo.step1); exact z_gd; exact z_mop; exact rfl)
    ((with_reducible apply MTo.step1); exact z_gd; ((with_reducible apply MOp.addC); exact z_ev; exact z_ev; omega; omega; omega; omega); exact rfl)
    refine z_mt ?_
    ((with_reducible apply SymL.callM [0, 1, 2, 3] kt); exact z_ren; exact z_evf; (refine ⟨?_, ?_, ?_, ?_, trivial⟩ <;> first | exact rfl | (simp only [Box.ren, D.enc, D.renL_p]; exact rfl)); decide; exact rfl; exact rfl; exact z_wrB; exact z_dd; exact z_ren; (simp only [Hp.clean, D.clean, D.cleanL, D.cleanL_p, bne, Nat.reduceBEq, Bool.not_true, Bool.not_false, cond_true, cond_false]; exact z_ren); exact z_cln)
    refine z_go ?_
    refine ⟨_, ?_, _, ⟨j + 1, by omega, rfl, rfl⟩, ?_⟩
    · omega
    · rw [show (List.range (j + 1)).map (plP a z c' y0 x0) = (List.range j).map (plP a z c' y0 x0) ++ [plP a z c' y0 x0 j] by rw [List.range_succ, List.map_append]; rfl]
      exact z_wkt
  · intro hge
    simp only [decide_eq_false_iff_not] at hge
    obtain rfl : j = z * z := by
      have : ((z * z : Nat) : Int) = (z : Int) * z := by simp
      omega
    refine z_go ?_
    exact FinB.nxW [] z_wkt .nil
end Go.Proofs.YtfnbofkhgimkcaaGreat
set_option linter.unusedSimpArgs false
set_option linter.unusedVariables false
namespace Go.Proofs.YtfnbofkhgimkcaaGreat
open Go.RowKit Go.Sy
theorem shSize_b (s : Sh) : 0 ≤ shSize s ∧ shSize s ≤ 128 := by
  unfold shSize
  split
  · rename_i h
    have := shMul h
    omega
  · omega
/-- is there such a layer? -/
def tOk (n : Nt) (i : Int) : Bool := !((ckE n != 0 || decide (i < 0)) || decide (i ≥ (n.ls.length : Int)))
theorem tOk_iff {n : Nt} {i : Int} : tOk n i = true ↔ ckE n = 0 ∧ 0 ≤ i ∧ i < n.ls.length := by
  simp [tOk]
  omega
theorem tOk_at {n : Nt} {i : Int} (h : tOk n i = true) : ∃ (j : Nat) (el : Ly) (cur : Sh), i = j ∧ ckE n = 0 ∧ n.ls[j]? = some el ∧ (ckS n)[j]? = some cur ∧ shRight cur = true ∧ (outOf cur el).2 = true ∧ (1 ≤ el.kind ∧ el.kind ≤ 4) ∧ (ckL n)[j]? = some (lxOf cur el) ∧ (ckS n)[j + 1]? = some (outOf cur el).1 ∧ (0 ≤ (ckW n j).1 ∧ (ckW n j).1 ≤ 512) ∧ shRight (outOf cur el).1 = true := by
  obtain ⟨h1, h2, h3⟩ := tOk_iff.1 h
  obtain ⟨j, rfl⟩ : ∃ j : Nat, i = j := ⟨i.toNat, by omega⟩
  obtain ⟨el, hel⟩ : ∃ el, n.ls[j]? = some el := ⟨_, List.getElem?_eq_getElem (by omega)⟩
  obtain ⟨cur, a1, a2, a3, a4, a5, a6⟩ := ck_fit h1 hel
  have hw := (ck_at h1 hel).1
  obtain ⟨_, hsum⟩ := ckL_ok n
  have := hsum j
  exact ⟨j, el, cur, rfl, h1, hel, a1, a2, a3, a4, a5, a6, by omega, (out_bounds a2 a3).1⟩
theorem fnTofOk {n : Nt} {j : Nat} {el : Ly} {cur : Sh} (hE : ckE n = 0) (hel : n.ls[j]? = some el) (hc1 : (ckS n)[j]? = some cur) (hc2 : (ckS n)[j + 1]? = some (outOf cur el).1) :
    Fn1 Tryz.prog 83 [ntV n, .i j] (.tup [lookV el cur (outOf cur el).1 (ckW n j).1, .b true]) := by
  refine Fn1.of (rs := [lookV _ _ _ _, .b _]) (res := [.cell 4 127, .tmp 5]) Tryz.call83 Tryz.func83 rfl Tryz.ntmps83 rfl (by simp) fun c hc => ?_
  have hjl : j < n.ls.length := (List.getElem?_eq_some_iff.1 hel).1
  obtain ⟨l1, l2, l3⟩ := ck_len hE
  have k0 := fnCkShapes n
  rw [hE] at k0
  have k1 := k0; refine z_go ?_
  apply Sym.cond
  · rfl
  · intro h
    exfalso
    simp at h
    omega
  · intro _
    have hc3 : (ckS n)[((j : Int) + 1).toNat]? = some (outOf cur el).1 := hc2
    have k1 := fnCkWeights n j; refine z_go ?_
    (apply Sym.drawXL [16] (by kernel_rfl) (by kernel_rfl) (by kernel_rfl))
    refine z_xgo ?_
    refine z_go ?_
    with_reducible first | apply Fin.rt | apply Fin.nx
    exact .cons (.cellA inferInstance rfl rfl rfl (Nat.le_of_ble_eq_true rfl) (.of (.of rfl))) (.cons (.tmp rfl (.of (.of rfl))) .nil)
theorem fnTofBad {n : Nt} {i : Int} (h : tOk n i = false) :
    Fn1 Tryz.prog 83 [ntV n, .i i] (.tup [lookV ⟨0, 0, 0, 0⟩ shZ shZ 0, .b false]) := by
  refine Fn1.of (rs := [lookV _ _ _ _, .b _]) (res := [.cell 4 127, .tmp 5]) Tryz.call83 Tryz.func83 rfl Tryz.ntmps83 rfl (by simp) fun c hc => ?_
  have k1 := fnCkShapes n; refine z_go ?_
  apply Sym.cond
  · rfl
  · intro _
    refine z_go ?_
    with_reducible first | apply Fin.rt | apply Fin.nx
    exact .cons (.cellA inferInstance rfl rfl rfl (Nat.le_of_ble_eq_true rfl) (.of (.of rfl))) (.cons (.tmp rfl (.of (.of rfl))) .nil)
  · intro h2
    exfalso
    simp only [tOk, h2] at h
    cases h
/-! ### Terms -/
def tmX (x : Lx) (wt i : Int) : List Tm := if 0 ≤ i ∧ i < shSize x.out then (if x.l.kind = 1 then cvT x.inn x.out x.l wt i else if x.l.kind = 4 then dnT (shSize x.inn).toNat wt i else if x.l.kind = 2 then [⟨i, -1⟩] else []) else []
/-- the terms of a place -/
def tmT (n : Nt) (i p : Int) : List Tm := if tOk n i then (match (ckL n)[i.toNat]? with | some x => tmX x (ckW n i).1 p | none => []) else []
theorem tmT_ok {n : Nt} {j : Nat} {x : Lx} (h : tOk n j = true) (hx : (ckL n)[j]? = some x) (p : Int) : tmT n j p = tmX x (ckW n j).1 p := by
  unfold tmT
  rw [if_pos h, Int.toNat_natCast, hx]
set_option maxHeartbeats 2000000 in
theorem fnTerms (n : Nt) (i p : Int) : Fn1 Tryz.prog 73 [ntV n, .i i, .i p] (V.list encTm (tmT n i p)) := by
  refine Fn1.of (rs := [V.list encTm _]) (res := [.tmp 6]) Tryz.call73 Tryz.func73 rfl Tryz.ntmps73 rfl (by simp) fun c hc => ?_
  by_cases hok : tOk n i = true
  · obtain ⟨j, el, cur, rfl, hE, hel, g1, g2, g3, g4, g5, g6, g7, g8⟩ := tOk_at hok
    have hz := shSize_b (outOf cur el).1
    rw [tmT_ok hok g5]
    have k1 := fnTofOk hE hel g1 g6; have k2 := fnShSize (outOf cur el).1; refine z_go ?_
    apply Sym.cond
    · rfl
    · intro h
      rw [show tmX (lxOf cur el) (ckW n j).1 p = [] by
        unfold tmX
        rw [if_neg]
        simp at h
        simp only
        omega]
      refine z_go ?_
      with_reducible first | apply Fin.rt | apply Fin.nx
      exact .cons (.tmp rfl (.of (.mk rfl z_vle))) .nil
    · intro h
      have hp : 0 ≤ p ∧ p < shSize (outOf cur el).1 := by
        simp at h
        omega
      rw [show tmX (lxOf cur el) (ckW n j).1 p = _ from if_pos hp]
      simp only
      refine z_go ?_
      apply Sym.cond
      · rfl
      · intro hk
        have hk : el.kind = 1 := by simpa using hk
        rw [if_pos hk]
        have hb : shConv cur el.out el.size el.step = ((outOf cur el).1, true) := by
          rw [fits1 hk] at g3 ⊢
          rw [← g3]
        have k1 := fnLkConv el cur (outOf cur el).1 (ckW n j).1 p g2 hb g7; refine z_go ?_
        with_reducible first | apply Fin.rt | apply Fin.nx
        exact .cons (.tmp rfl (.of (.mk rfl z_vle))) .nil
      · intro k1
        have k1 : ¬ el.kind = 1 := by simpa using k1
        rw [if_neg k1]
        refine z_go ?_
        apply Sym.cond
        · rfl
        · intro hk
          have hk : el.kind = 4 := by simpa using hk
          rw [if_pos hk]
          have k1 := fnLkDense el cur (outOf cur el).1 (ckW n j).1 p g7 (by omega); refine z_go ?_
          with_reducible first | apply Fin.rt | apply Fin.nx
          exact .cons (.tmp rfl (.of (.mk rfl z_vle))) .nil
        · intro k4
          have k4 : ¬ el.kind = 4 := by simpa using k4
          rw [if_neg k4]
          refine z_go ?_
          apply Sym.cond
          · rfl
          · intro hk
            have hk : el.kind = 2 := by simpa using hk
            rw [if_pos hk]
            refine z_go ?_
            with_reducible first | apply Fin.rt | apply Fin.nx
            exact .cons (.tmp rfl (.of (.mk rfl z_vle))) .nil
          · intro k2
            have k2 : ¬ el.kind = 2 := by simpa using k2
            rw [if_neg k2]
            refine z_go ?_
            with_reducible first | apply Fin.rt | apply Fin.nx
            exact .cons (.tmp rfl (.of (.mk rfl z_vle))) .nil
  · rw [Bool.not_eq_true] at hok
    rw [show tmT n i p = [] by simp [tmT, hok]]
    have k1 := fnTofBad hok; have k2 := fnShSize shZ; refine z_go ?_
    apply Sym.cond
    · rfl
    · intro h
      refine z_go ?_
      with_reducible first | apply Fin.rt | apply Fin.nx
      exact .cons (.tmp rfl (.of (.mk rfl z_vle))) .nil
    · intro h
      exact absurd h (by simp)
/-! ### Parts -/
theorem pool_fit {a b : Sh} {size : Int} (ha : shRight a = true) (h : shPool a size = (b, true)) : shRight b = true ∧ b.c = a.c ∧ (1 ≤ size ∧ size ≤ 12) ∧ b.h * size = a.h ∧ b.w * size = a.w := by
  obtain ⟨a1, a2, a3, a4⟩ := shRight_iff.1 ha
  by_cases hc : shRight a = true ∧ 1 ≤ size ∧ a.h.tmod size = 0 ∧ a.w.tmod size = 0
  · obtain ⟨_, h1, h2, h3⟩ := hc
    rw [shPool_t ⟨ha, h1, h2, h3⟩] at h
    simp only [Prod.mk.injEq, and_true] at h
    have p1 := pool1_1 ⟨h1, h2⟩ a2
    have p2 := pool1_1 ⟨h1, h3⟩ a3
    rw [w64_in (by omega), w64_in (by omega)] at h
    subst h
    have e1 := Int.tdiv_mul_cancel_of_tmod_eq_zero h2
    have e2 := Int.tdiv_mul_cancel_of_tmod_eq_zero h3
    have hs : size ≤ a.h := by
      have : 1 * size ≤ a.h.tdiv size * size := Int.mul_le_mul_of_nonneg_right (by omega) (by omega)
      omega
    refine ⟨shRight_le ha rfl (by simp only; omega) (by simp only; omega), rfl, by omega, e1, e2⟩
  · rw [shPool_f hc] at h
    simp at h
def ptX (x : Lx) (i : Int) : List Int := if x.l.kind = 3 then (if (shOf x.out i).2 then (List.range (x.l.size.toNat * x.l.size.toNat)).map (plP x.inn x.l.size.toNat (shOf x.out i).1.1 ((shOf x.out i).1.2.1 * x.l.size) ((shOf x.out i).1.2.2 * x.l.size)) else []) else []
/-- the parts of a place -/
def ptT (n : Nt) (i p : Int) : List Int := if tOk n i then (match (ckL n)[i.toNat]? with | some x => ptX x p | none => []) else []
theorem ptT_ok {n : Nt} {j : Nat} {x : Lx} (h : tOk n j = true) (hx : (ckL n)[j]? = some x) (p : Int) : ptT n j p = ptX x p := by
  unfold ptT
  rw [if_pos h, Int.toNat_natCast, hx]
set_option maxHeartbeats 2000000 in
theorem fnParts (n : Nt) (i p : Int) : Fn1 Tryz.prog 76 [ntV n, .i i, .i p] (V.list encI (ptT n i p)) := by
  refine Fn1.of (rs := [V.list encI _]) (res := [.tmp 6]) Tryz.call76 Tryz.func76 rfl Tryz.ntmps76 rfl (by simp) fun c hc => ?_
  by_cases hok : tOk n i = true
  · obtain ⟨j, el, cur, rfl, hE, hel, g1, g2, g3, g4, g5, g6, g7, g8⟩ := tOk_at hok
    rw [ptT_ok hok g5]
    have k1 := fnTofOk hE hel g1 g6; have k2 := fnShOf (outOf cur el).1 p; refine z_go ?_
    apply Sym.cond
    · rfl
    · intro h
      rw [show ptX (lxOf cur el) p = [] by
        unfold ptX
        simp only
        by_cases hk : el.kind = 3
        · simp [hk] at h
          rw [if_pos hk, h]
          rfl
        · rw [if_neg hk]]
      refine z_go ?_
      with_reducible first | apply Fin.rt | apply Fin.nx
      exact .cons (.tmp rfl (.of (.mk rfl z_vle))) .nil
    · intro h
      simp only [Bool.or_eq_false_iff, Bool.not_eq_false', bne_eq_false_iff_eq] at h
      obtain ⟨⟨_, h⟩, hk⟩ := h
      have hb : shPool cur el.size = ((outOf cur el).1, true) := by
        rw [fits3 hk] at g3 ⊢
        rw [← g3]
      obtain ⟨p1, p2, p3, p4, p5⟩ := pool_fit g2 hb
      obtain ⟨a1, a2, a3, a4⟩ := shRight_iff.1 g2
      obtain ⟨hin, hpos, hi⟩ := of_in g8 h
      obtain ⟨i1, i2, i3⟩ := inS_iff.1 hin
      obtain ⟨d1, d2, d3, d4⟩ := shRight_iff.1 g8
      generalize ho : (shOf (outOf cur el).1 p).1.1 = o at *
      generalize hy : (shOf (outOf cur el).1 p).1.2.1 = y at *
      generalize hx : (shOf (outOf cur el).1 p).1.2.2 = x at *
      obtain ⟨y, rfl⟩ : ∃ k : Nat, y = k := ⟨y.toNat, by omega⟩
      obtain ⟨x, rfl⟩ : ∃ k : Nat, x = k := ⟨x.toNat, by omega⟩
      obtain ⟨z, hz⟩ : ∃ k : Nat, el.size = k := ⟨el.size.toNat, by omega⟩
      rw [hz] at p3 p4 p5
      have e5 : ((y * z : Nat) : Int) + z ≤ 12 := by
        have : ((y : Int) + 1) * z ≤ (outOf cur el).1.h * z := Int.mul_le_mul_of_nonneg_right (by omega) (by omega)
        rw [Int.add_mul, Int.one_mul] at this
        rw [Int.natCast_mul]
        omega
      have e6 : ((x * z : Nat) : Int) + z ≤ 12 := by
        have : ((x : Int) + 1) * z ≤ (outOf cur el).1.w * z := Int.mul_le_mul_of_nonneg_right (by omega) (by omega)
        rw [Int.add_mul, Int.one_mul] at this
        rw [Int.natCast_mul]
        omega
      have kt := fnTimes y x z (by omega) (by omega) (by omega)
      have kw := fnWinP el cur (outOf cur el).1 (ckW n j).1 o z (y * z) (x * z) (by omega) (by omega) (by omega)
      rw [← hz] at kt kw
      rw [show ptX (lxOf cur el) p = (List.range (z * z)).map (plP cur z o ((y * z : Nat) : Int) ((x * z : Nat) : Int)) by
        unfold ptX
        simp only
        rw [if_pos hk, if_pos h, ho, hy, hx, hz, Int.toNat_natCast, Int.natCast_mul, Int.natCast_mul]]
      refine z_go ?_
      refine Sym.weak (Le.cellRow 3 0 3 1 rfl rfl rfl z_nrm) ?_
      refine z_go ?_
      (apply Sym.drawL 10 (by kernel_rfl) (by kernel_rfl))
      have k1 := kt; refine z_mt ?_
      ((with_reducible apply SymL.callM [3, 1, 2, 4] kw); exact z_ren; exact z_evf; (refine ⟨?_, ?_, ?_, ?_, trivial⟩ <;> first | exact rfl | (simp only [Box.ren, D.enc, D.renL_p]; exact rfl)); decide; exact rfl; exact rfl; exact z_wrB; exact z_dd; exact z_ren; (simp only [Hp.clean, D.clean, D.cleanL, D.cleanL_p, bne, Nat.reduceBEq, Bool.not_true, Bool.not_false, cond_true, cond_false]; exact z_ren); exact z_cln)
      refine z_go ?_
      with_reducible first | apply Fin.rt | apply Fin.nx
      exact .cons (.tmp rfl (DVr.list encI _ rfl (fun q => rfl) rfl rfl)) .nil
  · rw [Bool.not_eq_true] at hok
    rw [show ptT n i p = [] by simp [ptT, hok]]
    have k0 := fnShOf shZ p
    rw [show shOf shZ p = ((0, 0, 0), false) from if_neg (by rw [show shSize shZ = 0 from rfl]; omega)] at k0
    have k1 := fnTofBad hok; have k2 := k0; refine z_go ?_
    apply Sym.cond
    · rfl
    · intro h
      refine z_go ?_
      with_reducible first | apply Fin.rt | apply Fin.nx
      exact .cons (.tmp rfl (.of (.mk rfl z_vle))) .nil
    · intro h
      exact absurd h (by simp)
end Go.Proofs.YtfnbofkhgimkcaaGreat
set_option linter.unusedSimpArgs false
set_option linter.unusedVariables false
namespace Go.Sy
open Go.RowKit
/-- 'x || z', where x is true: z does not matter -/
theorem MOp.pickOrT {P : Program} {s : St} {g : Bool} {dst : Option Tmp} {ty : TypeId} {pos : String} {af : Array Edge} {gd : Option (Nat × Bool)} {x z : Operand} {b : Bool} (hx : Ev s g x (.p (.x (.bool b)))) (hb : b = true) :
    MOp P s ⟨dst, .pick x (.const (.bool true)) z, ty, pos, af, gd⟩ g (.p (.x (.bool true))) := by
  refine ⟨fun β S a w ho he hg K Q hK => ?_⟩
  subst hg
  subst hb
  have h1 : a.eval x = .bool true := hx.rep (l := (Op.pick x (.const (.bool true)) z).operands) (by simp [Op.operands]) he rfl
  have h2 : a.eval (.const (.bool true)) = .bool true := rfl
  exact wp_value (v := .bool true) (by simp [execOp, h1, h2, asBool]) (hK _ w (Ext.refl w) rfl)
end Go.Sy
namespace Go.Proofs.YtfnbofkhgimkcaaGreat
open Go.RowKit Go.Sy
theorem cvTm_rk (a : Sh) (z : Nat) (wt o c y0 x0 : Int) (r k : Nat) (hk : k < z) : cvTm a z wt o c y0 x0 (r * z + k) = ⟨shAt a c (y0 + r) (x0 + k), wt + ((o * a.c + c) * z + r) * z + k⟩ := by
  have e1 : (r * z + k) / z = r := by
    rw [Nat.mul_comm, Nat.mul_add_div (by omega), Nat.div_eq_of_lt hk, Nat.add_zero]
  have e2 : (r * z + k) % z = k := by
    rw [Nat.mul_comm, Nat.mul_add_mod, Nat.mod_eq_of_lt hk]
  unfold cvTm tmAt
  rw [e1, e2]
  congr 1
  rw [Int.add_mul (_ * _) (r : Int), Int.natCast_add, Int.natCast_mul]
  omega
set_option maxHeartbeats 2000000 in
theorem fnRConvT (l : Ly) (a b : Sh) (wt i : Int) (ha : shRight a = true) (hb : shConv a l.out l.size l.step = (b, true)) (hw : 0 ≤ wt ∧ wt ≤ 512) : Fn1 Tryz.prog 62 [shV a, shV b, lyV l, .i wt, .i i] (V.list encTm (cvT a b l wt i)) := by
  refine Fn1.of (rs := [V.list encTm _]) (res := [.tmp 10]) Tryz.call62 Tryz.func62 rfl Tryz.ntmps62 rfl (by simp) fun c hc => ?_
  obtain ⟨c1, c2, c3, c4, c5, c6⟩ := conv_fit ha hb
  obtain ⟨a1, a2, a3, a4⟩ := shRight_iff.1 ha
  obtain ⟨d1, d2, d3, d4⟩ := shRight_iff.1 c1
  by_cases h : (shOf b i).2 = true
  · obtain ⟨hin, hpos, hi⟩ := of_in c1 h
    obtain ⟨i1, i2, i3⟩ := inS_iff.1 hin
    have kof := fnROf b i
    rw [show shOf b i = (((shOf b i).1.1, (shOf b i).1.2.1, (shOf b i).1.2.2), true) by rw [← h]] at kof
    rw [show cvT a b l wt i = cvRows a l.size.toNat wt (shOf b i).1.1 ((shOf b i).1.2.1 * l.step) ((shOf b i).1.2.2 * l.step) a.c.toNat from if_pos h]
    generalize (shOf b i).1.1 = o at *
    generalize (shOf b i).1.2.1 = y at *
    generalize (shOf b i).1.2.2 = x at *
    obtain ⟨z, hz⟩ : ∃ k : Nat, l.size = k := ⟨l.size.toNat, by omega⟩
    obtain ⟨m, hm⟩ : ∃ k : Nat, a.c = k := ⟨a.c.toNat, by omega⟩
    have e5 := c5 y (by omega) (by omega)
    have e6 := c6 x (by omega) (by omega)
    have hzz : z * z ≤ 144 := Nat.mul_le_mul (show z ≤ 12 by omega) (show z ≤ 12 by omega)
    rw [hm, hz, Int.toNat_natCast, Int.toNat_natCast]
    have k1 := kof; refine z_go ?_
    refine Sym.weak (Le.asRow 15 87 2 rfl rfl rfl z_nrm z_nrm) ?_
    refine Sym.loop (fun q s => ∃ j : Nat, j ≤ m ∧ q = m - j ∧ s = ⟨[(16, true, .p (.i j)), (15, true, .row 3 (cvRows a z wt o (y * l.step) (x * l.step) j).length), (14, true, .p (.b true)), (13, true, .p (.i x)), (12, true, .p (.i y)), (11, true, .p (.i o)), (7, true, .ptr 2 0), (5, true, .ptr 0 0), (3, true, .p (.i wt))], [some (shBox a), some (shBox b), some (lyBox l), some (tmRow (cvRows a z wt o (y * l.step) (x * l.step) j))]⟩) m ⟨_, ⟨0, Nat.zero_le _, by simp, rfl⟩, z_wkt⟩ ?_
    rintro q s ⟨j, hj, rfl, rfl⟩
    refine z_go ?_
    apply Sym.cond
    · rfl
    · intro hlt
      simp only [Bool.and_true, decide_eq_true_eq] at hlt
      have hlen := cvRows_len a z wt o (y * l.step) (x * l.step) j
      have hlen2 : j * (z * z) ≤ 8 * 144 := Nat.mul_le_mul (by omega) hzz
      refine z_go ?_
      refine Sym.loop (fun q s => ∃ r : Nat, r ≤ z ∧ q = z - r ∧ s = ⟨[(17, true, .p (.i r)), (16, true, .p (.i j)), (15, true, .row 3 (cvRows a z wt o (y * l.step) (x * l.step) j ++ (List.range (r * z)).map (cvTm a z wt o j (y * l.step) (x * l.step))).length), (14, true, .p (.b true)), (13, true, .p (.i x)), (12, true, .p (.i y)), (11, true, .p (.i o)), (7, true, .ptr 2 0), (5, true, .ptr 0 0), (3, true, .p (.i wt))], [some (shBox a), some (shBox b), some (lyBox l), some (tmRow (cvRows a z wt o (y * l.step) (x * l.step) j ++ (List.range (r * z)).map (cvTm a z wt o j (y * l.step) (x * l.step))))]⟩) z ⟨_, ⟨0, Nat.zero_le _, by simp, rfl⟩, ?_⟩ ?_
      · rw [Nat.zero_mul, List.range_zero, List.map_nil, List.append_nil]
        exact z_wkt
      rintro q s ⟨r, hr, rfl, rfl⟩
      refine z_go ?_
      apply Sym.cond
      · rfl
      · intro hlt2
        rw [hz] at hlt2
        simp only [decide_eq_true_eq] at hlt2
        refine z_go ?_
        refine Sym.loop (fun q s => ∃ k : Nat, k ≤ z ∧ q = z - k ∧ s = ⟨[(18, true, .p (.i k)), (17, true, .p (.i r)), (16, true, .p (.i j)), (15, true, .row 3 (cvRows a z wt o (y * l.step) (x * l.step) j ++ (List.range (r * z + k)).map (cvTm a z wt o j (y * l.step) (x * l.step))).length), (14, true, .p (.b true)), (13, true, .p (.i x)), (12, true, .p (.i y)), (11, true, .p (.i o)), (7, true, .ptr 2 0), (5, true, .ptr 0 0), (3, true, .p (.i wt))], [some (shBox a), some (shBox b), some (lyBox l), some (tmRow (cvRows a z wt o (y * l.step) (x * l.step) j ++ (List.range (r * z + k)).map (cvTm a z wt o j (y * l.step) (x * l.step))))]⟩) z ⟨_, ⟨0, Nat.zero_le _, by simp, rfl⟩, z_wkt⟩ ?_
        rintro q s ⟨k, hk, rfl, rfl⟩
        refine z_go ?_
        apply Sym.cond
        · rfl
        · intro hlt3
          rw [hz] at hlt3
          simp only [decide_eq_true_eq] at hlt3
          have hrz : r * z ≤ 144 := Nat.le_trans (Nat.mul_le_mul (show r ≤ z by omega) (Nat.le_refl z)) hzz
          have hll : (cvRows a z wt o (y * l.step) (x * l.step) j ++ (List.range (r * z + k)).map (cvTm a z wt o j (y * l.step) (x * l.step))).length ≤ 10000 := by
            simp [hlen]
            omega
          have m1 := mulB (a := o) (b := a.c) (A := 7) (B := 8) (by omega) (by omega)
          have m2 := mulB (a := o * a.c + (j : Int)) (b := l.size) (A := 63) (B := 12) (by omega) (by omega)
          have m3 := mulB (a := (o * a.c + (j : Int)) * l.size + (r : Int)) (b := l.size) (A := 767) (B := 12) (by omega) (by omega)
          have hnx : (List.range (r * z + (k + 1))).map (cvTm a z wt o j (y * l.step) (x * l.step)) = (List.range (r * z + k)).map (cvTm a z wt o j (y * l.step) (x * l.step)) ++ [⟨shAt a j (y * l.step + r) (x * l.step + k), wt + ((o * a.c + j) * l.size + r) * l.size + k⟩] := by
            rw [← Nat.add_assoc, List.range_succ, List.map_append, List.map_cons, List.map_nil, cvTm_rk _ _ _ _ _ _ _ _ _ (by omega), hz]
          refine z_go ?_
          (apply Sym.drawXL [36] (by kernel_rfl) (by kernel_rfl) (by kernel_rfl))
          have k1 := fnRAt a j (y * l.step + r) (x * l.step + k); have a1 : AppH encTm (cvRows a z wt o (y * l.step) (x * l.step) j ++ (List.range (r * z + k)).map (cvTm a z wt o j (y * l.step) (x * l.step))) [⟨shAt a j (y * l.step + r) (x * l.step + k), wt + ((o * a.c + j) * l.size + r) * l.size + k⟩] := .mk; refine z_xgo ?_
          refine z_go ?_
          refine ⟨_, ?_, _, ⟨k + 1, by omega, rfl, rfl⟩, ?_⟩
          · omega
          · rw [hnx, ← List.append_assoc]
            exact z_wkt
        · intro hge
          rw [hz] at hge
          simp only [decide_eq_false_iff_not] at hge
          obtain rfl : k = z := by omega
          refine z_go ?_
          refine ⟨_, ?_, _, ⟨r + 1, by omega, rfl, rfl⟩, ?_⟩
          · omega
          · rw [show (r + 1) * k = r * k + k by rw [Nat.add_mul, Nat.one_mul]]
            exact z_wkt
      · intro hge
        rw [hz] at hge
        simp only [decide_eq_false_iff_not] at hge
        obtain rfl : r = z := by omega
        refine z_go ?_
        refine ⟨_, ?_, _, ⟨j + 1, by omega, rfl, rfl⟩, ?_⟩
        · omega
        · rw [cvRows_succ]
          exact z_wkt
    · intro hge
      rw [hm] at hge
      simp only [Bool.and_true, decide_eq_false_iff_not] at hge
      obtain rfl : j = m := by omega
      refine z_go ?_
      with_reducible first | apply Fin.rt | apply Fin.nx
      exact .cons (.tmp rfl (DVr.list encTm _ rfl (fun q => rfl) rfl rfl)) .nil
  · rw [Bool.not_eq_true] at h
    have kof := fnROf b i
    rw [show shOf b i = (((shOf b i).1.1, (shOf b i).1.2.1, (shOf b i).1.2.2), false) by rw [← h]] at kof
    rw [show cvT a b l wt i = [] by simp [cvT, h]]
    generalize (shOf b i).1.1 = o at *
    generalize (shOf b i).1.2.1 = y at *
    generalize (shOf b i).1.2.2 = x at *
    have k1 := kof; refine z_go ?_
    refine Sym.loop (fun q s => q = 0 ∧ s = ⟨[(16, true, .p (.i 0)), (15, true, .p (.x (.slice none 0 0))), (14, true, .p (.b false)), (5, true, .ptr 0 0)], [some (shBox a)]⟩) 0 ⟨_, ⟨rfl, rfl⟩, z_wkt⟩ ?_
    rintro q s ⟨rfl, rfl⟩
    refine z_go ?_
    apply Sym.cond
    · rfl
    · intro hlt
      exact absurd hlt (by simp)
    · intro _
      refine z_go ?_
      with_reducible first | apply Fin.rt | apply Fin.nx
      exact .cons (.tmp rfl (.of (.mk rfl z_vle))) .nil
end Go.Proofs.YtfnbofkhgimkcaaGreat
set_option linter.unusedSimpArgs false
set_option linter.unusedVariables false
namespace Go.Proofs.YtfnbofkhgimkcaaGreat
open Go.RowKit Go.Sy
set_option maxHeartbeats 2000000 in
theorem fnRTerms (n : Nt) (i p : Int) : Fn1 Tryz.prog 46 [ntV n, .i i, .i p] (V.list encTm (tmT n i p)) := by
  refine Fn1.of (rs := [V.list encTm _]) (res := [.tmp 6]) Tryz.call46 Tryz.func46 rfl Tryz.ntmps46 rfl (by simp) fun c hc => ?_
  by_cases hok : tOk n i = true
  · obtain ⟨j, el, cur, rfl, hE, hel, g1, g2, g3, g4, g5, g6, g7, g8⟩ := tOk_at hok
    have hz := shSize_b (outOf cur el).1
    have hza := shSize_b cur
    have hjl : j < n.ls.length := (List.getElem?_eq_some_iff.1 hel).1
    obtain ⟨l1, l2, l3⟩ := ck_len hE
    have g6' : (ckS n)[((j : Int) + 1).toNat]? = some (outOf cur el).1 := g6
    have k0 := fnRShapes n
    rw [hE] at k0
    rw [tmT_ok hok g5]
    have k1 := k0; have k2 := fnRShSize (outOf cur el).1; refine z_go ?_
    apply Sym.cond
    · rfl
    · intro h
      rw [show tmX (lxOf cur el) (ckW n j).1 p = [] by
        unfold tmX
        rw [if_neg]
        simp at h
        simp only
        omega]
      refine z_go ?_
      with_reducible first | apply Fin.rt | apply Fin.nx
      exact .cons (.tmp rfl (.of (.mk rfl z_vle))) .nil
    · intro h
      have hp : 0 ≤ p ∧ p < shSize (outOf cur el).1 := by
        simp at h
        omega
      rw [show tmX (lxOf cur el) (ckW n j).1 p = _ from if_pos hp]
      simp only
      have k1 := fnRWeights n j; refine z_go ?_
      apply Sym.cond
      · rfl
      · intro hk
        have hk : el.kind = 1 := by simpa using hk
        rw [if_pos hk]
        have hb : shConv cur el.out el.size el.step = ((outOf cur el).1, true) := by
          rw [fits1 hk] at g3 ⊢
          rw [← g3]
        have k1 := fnRConvT el cur (outOf cur el).1 (ckW n j).1 p g2 hb g7; refine z_go ?_
        with_reducible first | apply Fin.rt | apply Fin.nx
        exact .cons (.tmp rfl (.of (.mk rfl z_vle))) .nil
      · intro k1
        have k1 : ¬ el.kind = 1 := by simpa using k1
        rw [if_neg k1]
        refine z_go ?_
        apply Sym.cond
        · rfl
        · intro hk
          have hk : el.kind = 2 := by simpa using hk
          rw [if_neg (by omega), if_pos hk]
          refine z_go ?_
          with_reducible first | apply Fin.rt | apply Fin.nx
          exact .cons (.tmp rfl (.of (.mk rfl z_vle))) .nil
        · intro k2
          have k2 : ¬ el.kind = 2 := by simpa using k2
          refine z_go ?_
          apply Sym.cond
          · rfl
          · intro hk
            have hk : el.kind = 3 := by simpa using hk
            rw [if_neg (by omega), if_neg (by omega)]
            refine z_go ?_
            with_reducible first | apply Fin.rt | apply Fin.nx
            exact .cons (.tmp rfl (.of (.mk rfl z_vle))) .nil
          · intro k3
            have k3 : ¬ el.kind = 3 := by simpa using k3
            rw [if_pos (by omega)]
            obtain ⟨m, hm⟩ : ∃ m : Nat, shSize cur = m := ⟨(shSize cur).toNat, by omega⟩
            have ks := fnRShSize cur
            rw [hm] at ks ⊢
            rw [Int.toNat_natCast]
            generalize (ckW n j).1 = wt at *
            have hb := mulB (a := p) (b := (m : Int)) (A := 128) (B := 128) (by omega) (by omega)
            have k1 := ks; refine z_go ?_
            refine Sym.weak (Le.asRow 11 87 2 rfl rfl rfl z_nrm z_nrm) ?_
            refine Sym.loop (fun k s => ∃ q : Nat, q ≤ m ∧ k = m - q ∧ s = ⟨[(13, true, .p (.i q)), (12, true, .p (.i m)), (11, true, .row 1 (dnT m wt p |>.take q).length), (9, true, .p (.i wt)), (2, true, .p (.i p))], [some (ntBox n), some (tmRow ((dnT m wt p).take q))]⟩) m ⟨_, ⟨0, Nat.zero_le _, by simp, rfl⟩, z_wkt⟩ ?_
            rintro k s ⟨q, hq, rfl, rfl⟩
            refine z_go ?_
            apply Sym.cond
            · rfl
            · intro hlt
              simp only [decide_eq_true_eq] at hlt
              have hlen : ((dnT m wt p).take q).length ≤ 1000 := by simp [dnT]; omega
              have hnext : (dnT m wt p).take (q + 1) = (dnT m wt p).take q ++ [⟨(q : Int), wt + p * (m : Int) + (q : Int)⟩] := by
                rw [List.take_add_one]
                congr 1
                simp [dnT, show q < m by omega]
              have a1 : AppH encTm ((dnT m wt p).take q) [⟨(q : Int), wt + p * (m : Int) + (q : Int)⟩] := .mk; refine z_go ?_
              refine ⟨_, ?_, _, ⟨q + 1, by omega, rfl, rfl⟩, ?_⟩
              · omega
              · rw [hnext]
                exact z_wkt
            · intro hge
              simp only [decide_eq_false_iff_not] at hge
              obtain rfl : q = m := by omega
              rw [List.take_of_length_le (by simp [dnT])]
              refine z_go ?_
              with_reducible first | apply Fin.rt | apply Fin.nx
              exact .cons (.tmp rfl (DVr.list encTm _ rfl (fun q => rfl) rfl rfl)) .nil
  · rw [Bool.not_eq_true] at hok
    rw [show tmT n i p = [] by simp [tmT, hok]]
    have hok : ((ckE n != 0 || decide (i < 0)) || decide (i ≥ (n.ls.length : Int))) = true := by
      simp only [tOk, Bool.not_eq_false'] at hok
      exact hok
    have k1 := fnRShapes n; refine z_go ?_
    ((with_reducible apply SymL.opr); exact z_gd; exact MOp.off (by rw [hok]; rfl); exact rfl)
    ((with_reducible apply SymL.opr); exact z_gd; exact MOp.off (by rw [hok]; rfl); exact rfl)
    ((with_reducible apply SymL.opr); exact z_gd; exact MOp.off (by rw [hok]; rfl); exact rfl)
    ((with_reducible apply SymL.opr); exact z_gd; exact MOp.off (by rw [hok]; rfl); exact rfl)
    ((with_reducible apply SymL.opr); exact z_gd; ((with_reducible apply MOp.pickOrT); exact z_ev; rw [hok]; rfl); exact rfl)
    refine z_go ?_
    apply Sym.cond
    · rfl
    · intro h
      refine z_go ?_
      with_reducible first | apply Fin.rt | apply Fin.nx
      exact .cons (.tmp rfl (.of (.mk rfl z_vle))) .nil
    · intro h
      cases h
theorem plP_rk (a : Sh) (z : Nat) (c y0 x0 : Int) (r k : Nat) (hk : k < z) : plP a z c y0 x0 (r * z + k) = shAt a c (y0 + r) (x0 + k) := by
  have e1 : (r * z + k) / z = r := by
    rw [Nat.mul_comm, Nat.mul_add_div (by omega), Nat.div_eq_of_lt hk, Nat.add_zero]
  have e2 : (r * z + k) % z = k := by
    rw [Nat.mul_comm, Nat.mul_add_mod, Nat.mod_eq_of_lt hk]
  unfold plP
  rw [e1, e2]
set_option maxHeartbeats 2000000 in
theorem fnRParts (n : Nt) (i p : Int) : Fn1 Tryz.prog 77 [ntV n, .i i, .i p] (V.list encI (ptT n i p)) := by
  refine Fn1.of (rs := [V.list encI _]) (res := [.tmp 6]) Tryz.call77 Tryz.func77 rfl Tryz.ntmps77 rfl (by simp) fun c hc => ?_
  by_cases hok : tOk n i = true
  · obtain ⟨j, el, cur, rfl, hE, hel, g1, g2, g3, g4, g5, g6, g7, g8⟩ := tOk_at hok
    have hjl : j < n.ls.length := (List.getElem?_eq_some_iff.1 hel).1
    obtain ⟨l1, l2, l3⟩ := ck_len hE
    have g6' : (ckS n)[((j : Int) + 1).toNat]? = some (outOf cur el).1 := g6
    have k0 := fnRShapes n
    rw [hE] at k0
    rw [ptT_ok hok g5]
    have k1 := k0; refine z_go ?_
    apply Sym.cond
    · rfl
    · intro h
      have hk : ¬ el.kind = 3 := by
        intro hk
        simp [hk] at h
        omega
      rw [show ptX (lxOf cur el) p = [] from if_neg hk]
      refine z_go ?_
      with_reducible first | apply Fin.rt | apply Fin.nx
      exact .cons (.tmp rfl (.of (.mk rfl z_vle))) .nil
    · intro h
      have hk : el.kind = 3 := by
        simp at h
        exact h.2
      have hb : shPool cur el.size = ((outOf cur el).1, true) := by
        rw [fits3 hk] at g3 ⊢
        rw [← g3]
      obtain ⟨p1, p2, p3, p4, p5⟩ := pool_fit g2 hb
      obtain ⟨a1, a2, a3, a4⟩ := shRight_iff.1 g2
      obtain ⟨d1, d2, d3, d4⟩ := shRight_iff.1 g8
      obtain ⟨z, hz⟩ : ∃ k : Nat, el.size = k := ⟨el.size.toNat, by omega⟩
      have hzz : z * z ≤ 144 := Nat.mul_le_mul (show z ≤ 12 by omega) (show z ≤ 12 by omega)
      have kof := fnROf (outOf cur el).1 p
      by_cases h : (shOf (outOf cur el).1 p).2 = true
      · obtain ⟨hin, hpos, hi⟩ := of_in g8 h
        obtain ⟨i1, i2, i3⟩ := inS_iff.1 hin
        rw [show shOf (outOf cur el).1 p = (((shOf (outOf cur el).1 p).1.1, (shOf (outOf cur el).1 p).1.2.1, (shOf (outOf cur el).1 p).1.2.2), true) by rw [← h]] at kof
        rw [show ptX (lxOf cur el) p = (List.range (el.size.toNat * el.size.toNat)).map (plP cur el.size.toNat (shOf (outOf cur el).1 p).1.1 ((shOf (outOf cur el).1 p).1.2.1 * el.size) ((shOf (outOf cur el).1 p).1.2.2 * el.size)) by
          unfold ptX
          simp only
          rw [if_pos hk, if_pos h]]
        generalize (shOf (outOf cur el).1 p).1.1 = o at *
        generalize (shOf (outOf cur el).1 p).1.2.1 = y at *
        generalize (shOf (outOf cur el).1 p).1.2.2 = x at *
        have e5 : 0 ≤ y * el.size ∧ y * el.size ≤ 12 := by
          have h1 := mulB (a := y) (b := el.size) (A := (outOf cur el).1.h) (B := el.size) (by omega) (by omega)
          omega
        have e6 : 0 ≤ x * el.size ∧ x * el.size ≤ 12 := by
          have h1 := mulB (a := x) (b := el.size) (A := (outOf cur el).1.w) (B := el.size) (by omega) (by omega)
          omega
        have hzt : el.size.toNat = z := by omega
        rw [hzt]
        have k1 := kof; refine z_go ?_
        refine Sym.weak (Le.asRow 13 3 1 rfl rfl rfl z_nrm z_nrm) ?_
        refine Sym.loop (fun q s => ∃ r : Nat, r ≤ z ∧ q = z - r ∧ s = ⟨[(15, true, .p (.i r)), (14, true, .p (.i el.size)), (13, true, .row 1 ((List.range (r * z)).map (plP cur z o (y * el.size) (x * el.size))).length), (12, true, .p (.b true)), (11, true, .p (.i x)), (10, true, .p (.i y)), (9, true, .p (.i o)), (7, true, .p (V.list encSh (ckS n))), (1, true, .p (.i j))], [some (ntBox n), some (inRow ((List.range (r * z)).map (plP cur z o (y * el.size) (x * el.size))))]⟩) z ⟨_, ⟨0, Nat.zero_le _, by simp, rfl⟩, ?_⟩ ?_
        · rw [Nat.zero_mul, List.range_zero, List.map_nil]
          exact z_wkt
        rintro q s ⟨r, hr, rfl, rfl⟩
        refine z_go ?_
        apply Sym.cond
        · rfl
        · intro hlt2
          rw [hz] at hlt2
          simp only [Bool.and_true, decide_eq_true_eq] at hlt2
          refine z_go ?_
          refine Sym.loop (fun q s => ∃ k : Nat, k ≤ z ∧ q = z - k ∧ s = ⟨[(16, true, .p (.i k)), (15, true, .p (.i r)), (14, true, .p (.i el.size)), (13, true, .row 1 ((List.range (r * z + k)).map (plP cur z o (y * el.size) (x * el.size))).length), (12, true, .p (.b true)), (11, true, .p (.i x)), (10, true, .p (.i y)), (9, true, .p (.i o)), (7, true, .p (V.list encSh (ckS n))), (1, true, .p (.i j))], [some (ntBox n), some (inRow ((List.range (r * z + k)).map (plP cur z o (y * el.size) (x * el.size))))]⟩) z ⟨_, ⟨0, Nat.zero_le _, by simp, rfl⟩, z_wkt⟩ ?_
          rintro q s ⟨k, hk2, rfl, rfl⟩
          refine z_go ?_
          apply Sym.cond
          · rfl
          · intro hlt3
            rw [hz] at hlt3
            simp only [decide_eq_true_eq] at hlt3
            have hrz : r * z ≤ 144 := Nat.le_trans (Nat.mul_le_mul (show r ≤ z by omega) (Nat.le_refl z)) hzz
            have hll : ((List.range (r * z + k)).map (plP cur z o (y * el.size) (x * el.size))).length ≤ 10000 := by
              simp
              omega
            have hnx : (List.range (r * z + (k + 1))).map (plP cur z o (y * el.size) (x * el.size)) = (List.range (r * z + k)).map (plP cur z o (y * el.size) (x * el.size)) ++ [shAt cur o (y * el.size + r) (x * el.size + k)] := by
              rw [← Nat.add_assoc, List.range_succ, List.map_append, List.map_cons, List.map_nil, plP_rk _ _ _ _ _ _ _ (by omega)]
            have k1 := fnRAt cur o (y * el.size + r) (x * el.size + k); have a1 : AppH encI ((List.range (r * z + k)).map (plP cur z o (y * el.size) (x * el.size))) [shAt cur o (y * el.size + r) (x * el.size + k)] := .mk; refine z_go ?_
            refine ⟨_, ?_, _, ⟨k + 1, by omega, rfl, rfl⟩, ?_⟩
            · omega
            · rw [hnx]
              exact z_wkt
          · intro hge
            rw [hz] at hge
            simp only [decide_eq_false_iff_not] at hge
            obtain rfl : k = z := by omega
            refine z_go ?_
            refine ⟨_, ?_, _, ⟨r + 1, by omega, rfl, rfl⟩, ?_⟩
            · omega
            · rw [show (r + 1) * k = r * k + k by rw [Nat.add_mul, Nat.one_mul]]
              exact z_wkt
        · intro hge
          rw [hz] at hge
          simp only [Bool.and_true, decide_eq_false_iff_not] at hge
          obtain rfl : r = z := by omega
          refine z_go ?_
          with_reducible first | apply Fin.rt | apply Fin.nx
          exact .cons (.tmp rfl (DVr.list encI _ rfl (fun q => rfl) rfl rfl)) .nil
      · rw [Bool.not_eq_true] at h
        rw [show shOf (outOf cur el).1 p = (((shOf (outOf cur el).1 p).1.1, (shOf (outOf cur el).1 p).1.2.1, (shOf (outOf cur el).1 p).1.2.2), false) by rw [← h]] at kof
        rw [show ptX (lxOf cur el) p = [] by
          unfold ptX
          simp only
          rw [if_pos hk, h]
          rfl]
        generalize (shOf (outOf cur el).1 p).1.1 = o at *
        generalize (shOf (outOf cur el).1 p).1.2.1 = y at *
        generalize (shOf (outOf cur el).1 p).1.2.2 = x at *
        have k1 := kof; refine z_go ?_
        refine Sym.loop (fun q s => q = 0 ∧ s = ⟨[(15, true, .p (.i 0)), (14, true, .p (.i el.size)), (13, true, .p (.x (.slice none 0 0))), (12, true, .p (.b false))], [some (ntBox n)]⟩) 0 ⟨_, ⟨rfl, rfl⟩, z_wkt⟩ ?_
        rintro q s ⟨rfl, rfl⟩
        refine z_go ?_
        apply Sym.cond
        · rfl
        · intro hlt
          exact absurd hlt (by simp)
        · intro _
          refine z_go ?_
          with_reducible first | apply Fin.rt | apply Fin.nx
          exact .cons (.tmp rfl (.of (.mk rfl z_vle))) .nil
  · rw [Bool.not_eq_true] at hok
    rw [show ptT n i p = [] by simp [ptT, hok]]
    have hok : ((ckE n != 0 || decide (i < 0)) || decide (i ≥ (n.ls.length : Int))) = true := by
      simp only [tOk, Bool.not_eq_false'] at hok
      exact hok
    have k1 := fnRShapes n; refine z_go ?_
    ((with_reducible apply SymL.opr); exact z_gd; exact MOp.off (by rw [hok]; rfl); exact rfl)
    ((with_reducible apply SymL.opr); exact z_gd; exact MOp.off (by rw [hok]; rfl); exact rfl)
    ((with_reducible apply SymL.opr); exact z_gd; exact MOp.off (by rw [hok]; rfl); exact rfl)
    ((with_reducible apply SymL.opr); exact z_gd; exact MOp.off (by rw [hok]; rfl); exact rfl)
    ((with_reducible apply SymL.opr); exact z_gd; ((with_reducible apply MOp.pickOrT); exact z_ev; rw [hok]); exact rfl)
    refine z_go ?_
    apply Sym.cond
    · rfl
    · intro h
      refine z_go ?_
      with_reducible first | apply Fin.rt | apply Fin.nx
      exact .cons (.tmp rfl (.of (.mk rfl z_vle))) .nil
    · intro h
      cases h
/-! ### what goes in, and what comes out -/
end Go.Proofs.YtfnbofkhgimkcaaGreat
