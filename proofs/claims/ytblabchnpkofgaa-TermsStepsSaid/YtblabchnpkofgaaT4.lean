/- Layer 6: a Dense's terms, a Pool's parts. -/
import Derived.Test.YtblabchnpkofgaaT3
set_option linter.unusedSimpArgs false
set_option linter.unusedVariables false
namespace Go.Proofs.Ytblabchnpkofgaa
open Go.RowKit Go.Sy
/-! ### a Dense's terms -/
def dnT (many : Nat) (wt i : Int) : List Tm := (List.range many).map fun j : Nat => ⟨(j : Int), wt + i * (many : Int) + (j : Int)⟩
theorem fnLkDense (l : Ly) (a b : Sh) (wt i : Int) (hw : 0 ≤ wt ∧ wt ≤ 512) (hi : 0 ≤ i ∧ i ≤ 128) : Fn1 Try.prog 69 [lookV l a b wt, .i i] (V.list encTm (dnT (shSize a).toNat wt i)) := by
  refine Fn1.of (rs := [V.list encTm _]) (res := [.tmp 4]) Try.call69 Try.func69 rfl Try.ntmps69 rfl (by simp) fun c hc => ?_
  have hz : 0 ≤ shSize a ∧ shSize a ≤ 128 := by
    unfold shSize
    split
    · rename_i h
      have := shMul h
      omega
    · omega
  obtain ⟨m, hm⟩ : ∃ m : Nat, shSize a = m := ⟨(shSize a).toNat, by omega⟩
  have hb := mulB (a := i) (b := (m : Int)) (A := 128) (B := 128) hi (by omega)
  have ks := fnShSize a
  rw [hm] at ks ⊢
  rw [Int.toNat_natCast]
  have k1 := ks; refine z_go ?_
  refine Sym.weak (Le.asRow 5 58 2 rfl rfl rfl z_nrm z_nrm) ?_
  refine Sym.loop (fun k s => ∃ j : Nat, j ≤ m ∧ k = m - j ∧ s = ⟨[(12, true, .p (.i j)), (11, true, .p (.i m)), (6, true, .p (.i m)), (5, true, .row 1 (dnT m wt i |>.take j).length), (2, true, .ptr 0 0), (1, true, .p (.i i))], [some (lookBox l a b wt), some (tmRow ((dnT m wt i).take j))]⟩) m ⟨_, ⟨0, Nat.zero_le _, by simp, rfl⟩, z_wkt⟩ ?_
  rintro k s ⟨j, hj, rfl, rfl⟩
  refine z_go ?_
  apply Sym.cond
  · rfl
  · intro hlt
    simp only [decide_eq_true_eq] at hlt
    have hlen : ((dnT m wt i).take j).length ≤ 1000 := by simp [dnT]; omega
    have hnext : (dnT m wt i).take (j + 1) = (dnT m wt i).take j ++ [⟨(j : Int), wt + i * (m : Int) + (j : Int)⟩] := by
      rw [List.take_add_one]
      congr 1
      simp [dnT, show j < m by omega]
    have a1 : AppH encTm ((dnT m wt i).take j) [⟨(j : Int), wt + i * (m : Int) + (j : Int)⟩] := .mk; refine z_go ?_
    refine ⟨_, ?_, _, ⟨j + 1, by omega, rfl, rfl⟩, ?_⟩
    · omega
    · rw [hnext]
      exact z_wkt
  · intro hge
    simp only [decide_eq_false_iff_not] at hge
    obtain rfl : j = m := by omega
    rw [List.take_of_length_le (by simp [dnT])]
    refine z_go ?_
    with_reducible first | apply Fin.rt | apply Fin.nx
    exact .cons (.tmp rfl (DVr.list encTm _ rfl (fun q => rfl) rfl rfl)) .nil
/-! ### a Pool's parts -/
abbrev encI (x : Int) : List V := [.i x]
abbrev inCell (k n : Nat) : Box := ⟨[.row k n], 52, 0⟩
abbrev inRow (l : List Int) : Box := ⟨D.enc encI l, 3, 1⟩
/-- the j-th place of a block -/
def plP (a : Sh) (z : Nat) (c y0 x0 : Int) (j : Nat) : Int := shAt a c (y0 + (j / z : Nat)) (x0 + (j % z : Nat))
set_option maxHeartbeats 2000000 in
theorem fnPartsT (l : Ly) (a b : Sh) (wt c' : Int) (y x j : Nat) (ts : List Int) (hy : y < 30) (hx : x < 30) (ht : ts.length ≤ 10000) :
    FnM Try.prog 74 [.p (.i j), .p (.x (cxV x y)), .ptr 0 0, .ptr 1 0, .ptr 2 0] [some (inCell 3 ts.length), some (lookBox l a b wt), some (iBox c'), some (inRow ts)] 3 (.tup [])
      [some (inCell 3 (ts ++ [shAt a c' y x]).length), some (lookBox l a b wt), some (iBox c'), some (inRow (ts ++ [shAt a c' y x]))] := by
  refine FnM.of (rs := []) (res := []) Try.call74 Try.func74 rfl Try.ntmps74 rfl (by simp) rfl (by simp [Hp.upTo, D.upToL, D.upTo, D.upToL_p]) fun c hro hc hdead => ?_
  refine z_go ?_
  (apply Sym.drawXL [7, 8] (by kernel_rfl) (by kernel_rfl) (by kernel_rfl))
  have k1 := fnTat a c' y x hy hx; have a1 : AppH encI ts [shAt a c' y x] := .mk; refine z_xgo ?_
  exact FinB.nxW [] z_wkt .nil
set_option maxHeartbeats 2000000 in
theorem fnWinP (l : Ly) (a b : Sh) (wt c' : Int) (z y0 x0 : Nat) (hz : 1 ≤ z ∧ z ≤ 12) (hy : y0 + z ≤ 12) (hx : x0 + z ≤ 12) :
    FnM Try.prog 72 [.p (.x (cxV x0 y0)), .p (.i z), .clo (.func 74) [] [.ptr 0 0, .ptr 1 0, .ptr 2 0]] [some (inCell 3 0), some (lookBox l a b wt), some (iBox c'), some (inRow [])] 3 (.tup [])
      [some (inCell 3 ((List.range (z * z)).map (plP a z c' y0 x0)).length), some (lookBox l a b wt), some (iBox c'), some (inRow ((List.range (z * z)).map (plP a z c' y0 x0)))] := by
  refine FnM.of (rs := []) (res := []) Try.call72 Try.func72 rfl Try.ntmps72 rfl (by simp) rfl (by simp [Hp.upTo, D.upToL, D.upTo, D.upToL_p]) fun c hro hc hdead => ?_
  have hzz := mulB (a := (z : Int)) (b := z) (A := 12) (B := 12) (by omega) (by omega)
  refine z_go ?_
  refine Sym.loop (fun k s => ∃ j : Nat, j ≤ z * z ∧ k = z * z - j ∧ s = ⟨[(10, true, .p (.i j)), (9, true, .p (.i ((z : Int) * z))), (2, true, .clo (.func 74) [] [.ptr 0 0, .ptr 1 0, .ptr 2 0]), (1, true, .p (.i z)), (0, true, .p (.x (cxV x0 y0)))], [some (inCell 3 ((List.range j).map (plP a z c' y0 x0)).length), some (lookBox l a b wt), some (iBox c'), some (inRow ((List.range j).map (plP a z c' y0 x0)))]⟩) (z * z) ⟨_, ⟨0, Nat.zero_le _, by simp, rfl⟩, z_wkt⟩ ?_
  rintro k s ⟨j, hj, rfl, rfl⟩
  refine z_go ?_
  apply Sym.cond
  · rfl
  · intro hlt
    simp only [decide_eq_true_eq] at hlt
    have hj2 : j < z * z := by
      have : ((z * z : Nat) : Int) = (z : Int) * z := by simp
      omega
    have q1 : j / z < z := Nat.div_lt_of_lt_mul hj2
    have q2 : j % z < z := Nat.mod_lt _ (by omega)
    have hz144 : z * z ≤ 144 := Nat.mul_le_mul hz.2 hz.2
    have kp := fnPlace (j / z) (j % z)
    rw [Int.natCast_ediv, Int.natCast_emod] at kp
    have kt := fnPartsT l a b wt c' (y0 + j / z) (x0 + j % z) j ((List.range j).map (plP a z c' y0 x0)) (by omega) (by omega) (by simp; omega)
    rw [show shAt a c' ((y0 + j / z : Nat) : Int) ((x0 + j % z : Nat) : Int) = plP a z c' y0 x0 j from rfl] at kt
    refine z_go ?_
    (apply Sym.drawL 11 (by kernel_rfl) (by kernel_rfl))
    have k1 := kp
    repeat ((with_reducible apply MTo.step1); exact z_gd; exact z_mop; exact rfl)
    ((with_reducible apply MTo.step1); exact z_gd; ((with_reducible apply MOp.addC); exact z_ev; exact z_ev; omega; omega; omega; omega); exact rfl)
    refine z_mt ?_
    ((with_reducible apply SymL.callM [0, 1, 2, 3] kt); exact z_ren; exact z_evf; (refine ⟨?_, ?_, ?_, ?_, trivial⟩ <;> first | exact rfl | (simp only [Box.ren, D.enc, D.renL_p]; exact rfl)); decide; exact rfl; exact rfl; exact z_wrB; exact z_dd; exact z_ren; (simp only [Hp.clean, D.clean, D.cleanL, D.cleanL_p, bne, Nat.reduceBEq, Bool.not_true, Bool.not_false, cond_true, cond_false]; exact z_ren); exact z_cln)
    refine z_go ?_
    refine ⟨_, ?_, _, ⟨j + 1, by omega, rfl, rfl⟩, ?_⟩
    · omega
    · rw [show (List.range (j + 1)).map (plP a z c' y0 x0) = (List.range j).map (plP a z c' y0 x0) ++ [plP a z c' y0 x0 j] by rw [List.range_succ, List.map_append]; rfl]
      exact z_wkt
  · intro hge
    simp only [decide_eq_false_iff_not] at hge
    obtain rfl : j = z * z := by
      have : ((z * z : Nat) : Int) = (z : Int) * z := by simp
      omega
    refine z_go ?_
    exact FinB.nxW [] z_wkt .nil
end Go.Proofs.Ytblabchnpkofgaa
