/- Layer 6: places as complex numbers; windows; what a Conv's terms are. -/
import Derived.Test.YtblabchnpkofgaaT1
import Derived.Test.YtblabchnpkofgaaDv
set_option linter.unusedSimpArgs false
set_option linter.unusedVariables false
namespace Go.Proofs.Ytblabchnpkofgaa
open Go.RowKit Go.Sy
theorem fnPlace (y x : Nat) : Fn1 Try.prog 87 [.i y, .i x] (.x (cxV x y)) := by
  refine Fn1.of (rs := [.x _]) (res := [.tmp 4]) Try.call87 Try.func87 rfl Try.ntmps87 rfl (by simp) fun c hc => ?_
  refine z_go ?_
  (with_reducible apply SymL.opr); exact z_gd; ((with_reducible apply MOp.convF); exact z_ev); exact rfl
  refine z_go ?_
  (with_reducible apply SymL.opr); exact z_gd; ((with_reducible apply MOp.convF); exact z_ev); exact rfl
  (with_reducible apply SymL.opr); exact z_gd; ((with_reducible apply MOp.complex); exact z_ev; exact z_ev); exact rfl
  refine z_go ?_
  with_reducible first | apply Fin.rt | apply Fin.nx
  exact (.cons (.tmp rfl (.of (.of rfl))) .nil)
theorem fnTimes (y x z : Nat) (hy : y ≤ 12) (hx : x ≤ 12) (hz : z ≤ 12) : Fn1 Try.prog 73 [.i y, .i x, .i z] (.x (cxV (x * z) (y * z))) := by
  refine Fn1.of (rs := [.x _]) (res := [.tmp 6]) Try.call73 Try.func73 rfl Try.ntmps73 rfl (by simp) fun c hc => ?_
  have k1 := fnPlace y x; refine z_go ?_
  (with_reducible apply SymL.opr); exact z_gd; ((with_reducible apply MOp.convF); exact z_ev); exact rfl
  (with_reducible apply SymL.opr); exact z_gd; ((with_reducible apply MOp.complex); exact z_ev; exact z_ev); exact rfl
  (with_reducible apply SymL.opr); exact z_gd; ((with_reducible apply MOp.mulC); exact z_ev; exact z_ev; omega; omega; omega); exact rfl
  refine z_go ?_
  with_reducible first | apply Fin.rt | apply Fin.nx
  exact (.cons (.tmp rfl (.of (.of rfl))) .nil)
theorem fnTat (s : Sh) (c' : Int) (y x : Nat) (hy : y < 30) (hx : x < 30) : Fn1 Try.prog 75 [shV s, .i c', .x (cxV x y)] (.i (shAt s c' y x)) := by
  refine Fn1.of (rs := [.i _]) (res := [.tmp 6]) Try.call75 Try.func75 rfl Try.ntmps75 rfl (by simp) fun c hc => ?_
  refine z_go ?_
  (with_reducible apply SymL.opr); exact z_gd; ((with_reducible apply MOp.imag); exact z_ev); exact rfl
  (with_reducible apply SymL.opr); exact z_gd; ((with_reducible apply MOp.convFI); exact z_ev; omega); exact rfl
  refine z_go ?_
  (with_reducible apply SymL.opr); exact z_gd; ((with_reducible apply MOp.real); exact z_ev); exact rfl
  (with_reducible apply SymL.opr); exact z_gd; ((with_reducible apply MOp.convFI); exact z_ev; omega); exact rfl
  have k1 := fnShAt s c' y x; refine z_go ?_
  with_reducible first | apply Fin.rt | apply Fin.nx
  exact (.cons (.tmp rfl (.of (.of rfl))) .nil)
/-! ### a Conv's window -/
structure Tm where
  x : Int
  w : Int
  deriving DecidableEq
abbrev encTm (t : Tm) : List V := [.i t.x, .i t.w]
abbrev lookC (l : Ly) (a b : Sh) (wt : Int) : List V := [.i l.kind, .i l.out, .i l.size, .i l.step, .i a.c, .i a.h, .i a.w, .i b.c, .i b.h, .i b.w, .i wt]
abbrev lookV (l : Ly) (a b : Sh) (wt : Int) : V := .agg (lookC l a b wt)
abbrev lookBox (l : Ly) (a b : Sh) (wt : Int) : Box := ⟨[.p (.i l.kind), .p (.i l.out), .p (.i l.size), .p (.i l.step), .p (.i a.c), .p (.i a.h), .p (.i a.w), .p (.i b.c), .p (.i b.h), .p (.i b.w), .p (.i wt)], 92, 0⟩
abbrev tmCell (k n : Nat) : Box := ⟨[.row k n], 49, 0⟩
abbrev tmRow (l : List Tm) : Box := ⟨D.enc encTm l, 58, 2⟩
/-- the term of a window's j-th place, in a channel -/
abbrev tmAt (a : Sh) (sz : Int) (wt o c y x : Int) (j : Nat) : Tm := ⟨shAt a c y x, wt + (o * a.c + c) * sz * sz + (j : Int)⟩
def cvTm (a : Sh) (z : Nat) (wt o c y0 x0 : Int) (j : Nat) : Tm := tmAt a z wt o c (y0 + (j / z : Nat)) (x0 + (j % z : Nat)) j
theorem cv_bounds {a : Sh} {z : Nat} {wt o c : Int} (ha : 1 ≤ a.c ∧ a.c ≤ 8) (hz : z ≤ 12) (ho : 0 ≤ o ∧ o ≤ 7) (hc : 0 ≤ c ∧ c ≤ 7) :
    (0 ≤ o * a.c ∧ o * a.c ≤ 56) ∧ (0 ≤ (o * a.c + c) * (z : Int) ∧ (o * a.c + c) * (z : Int) ≤ 756) ∧ (0 ≤ (o * a.c + c) * (z : Int) * (z : Int) ∧ (o * a.c + c) * (z : Int) * (z : Int) ≤ 9072) := by
  have m1 := mulB (a := o) (b := a.c) (A := 7) (B := 8) (by omega) (by omega)
  have m2 := mulB (a := o * a.c + c) (b := (z : Int)) (A := 63) (B := 12) (by omega) (by omega)
  have m3 := mulB (a := (o * a.c + c) * (z : Int)) (b := (z : Int)) (A := 756) (B := 12) (by omega) (by omega)
  omega
set_option maxHeartbeats 2000000 in
theorem fnConvT (l : Ly) (a b : Sh) (wt o c' : Int) (z y x j : Nat) (ts : List Tm) (hl : l.size = z) (ha : 1 ≤ a.c ∧ a.c ≤ 8) (hz : z ≤ 12) (ho : 0 ≤ o ∧ o ≤ 7) (hcc : 0 ≤ c' ∧ c' ≤ 7) (hw : 0 ≤ wt ∧ wt ≤ 512) (hj : j ≤ 1000) (hy : y < 30) (hx : x < 30) (ht : ts.length ≤ 10000) :
    FnM Try.prog 85 [.p (.i j), .p (.x (cxV x y)), .ptr 0 0, .ptr 1 0, .ptr 2 0, .ptr 3 0] [some (tmCell 4 ts.length), some (lookBox l a b wt), some (iBox c'), some (iBox o), some (tmRow ts)] 4 (.tup [])
      [some (tmCell 4 (ts ++ [tmAt a l.size wt o c' y x j]).length), some (lookBox l a b wt), some (iBox c'), some (iBox o), some (tmRow (ts ++ [tmAt a l.size wt o c' y x j]))] := by
  obtain ⟨m1, m2, m3⟩ := cv_bounds (wt := wt) ha hz ho hcc
  rw [← hl] at m2 m3
  refine FnM.of (rs := []) (res := []) Try.call85 Try.func85 rfl Try.ntmps85 rfl (by simp) rfl (by simp [Hp.upTo, D.upToL, D.upTo, D.upToL_p]) fun c hro hc hdead => ?_
  refine z_go ?_
  (apply Sym.drawXL [28, 29] (by kernel_rfl) (by kernel_rfl) (by kernel_rfl))
  have k1 := fnTat a c' y x hy hx; have a1 : AppH encTm ts [tmAt a l.size wt o c' y x j] := .mk; refine z_xgo ?_
  exact FinB.nxW [] z_wkt .nil
set_option maxHeartbeats 2000000 in
theorem fnWinC (l : Ly) (a b : Sh) (wt o c' : Int) (z y0 x0 : Nat) (l0 : List Tm) (ha : 1 ≤ a.c ∧ a.c ≤ 8) (hl : l.size = z) (hz : 1 ≤ z ∧ z ≤ 12) (ho : 0 ≤ o ∧ o ≤ 7) (hcc : 0 ≤ c' ∧ c' ≤ 7) (hw : 0 ≤ wt ∧ wt ≤ 512) (hy : y0 + z ≤ 12) (hx : x0 + z ≤ 12) (ht : l0.length ≤ 5000) :
    FnM Try.prog 72 [.p (.x (cxV x0 y0)), .p (.i z), .clo (.func 85) [] [.ptr 0 0, .ptr 1 0, .ptr 2 0, .ptr 3 0]] [some (tmCell 4 l0.length), some (lookBox l a b wt), some (iBox c'), some (iBox o), some (tmRow l0)] 4 (.tup [])
      [some (tmCell 4 (l0 ++ (List.range (z * z)).map (cvTm a z wt o c' y0 x0)).length), some (lookBox l a b wt), some (iBox c'), some (iBox o), some (tmRow (l0 ++ (List.range (z * z)).map (cvTm a z wt o c' y0 x0)))] := by
  refine FnM.of (rs := []) (res := []) Try.call72 Try.func72 rfl Try.ntmps72 rfl (by simp) rfl (by simp [Hp.upTo, D.upToL, D.upTo, D.upToL_p]) fun c hro hc hdead => ?_
  have hzz := mulB (a := (z : Int)) (b := z) (A := 12) (B := 12) (by omega) (by omega)
  refine z_go ?_
  refine Sym.loop (fun k s => ∃ j : Nat, j ≤ z * z ∧ k = z * z - j ∧ s = ⟨[(10, true, .p (.i j)), (9, true, .p (.i ((z : Int) * z))), (2, true, .clo (.func 85) [] [.ptr 0 0, .ptr 1 0, .ptr 2 0, .ptr 3 0]), (1, true, .p (.i z)), (0, true, .p (.x (cxV x0 y0)))], [some (tmCell 4 (l0 ++ (List.range j).map (cvTm a z wt o c' y0 x0)).length), some (lookBox l a b wt), some (iBox c'), some (iBox o), some (tmRow (l0 ++ (List.range j).map (cvTm a z wt o c' y0 x0)))]⟩) (z * z) ⟨_, ⟨0, Nat.zero_le _, by simp, rfl⟩, ?_⟩ ?_
  · simp only [List.range_zero, List.map_nil, List.append_nil]
    exact z_wkt
  rintro k s ⟨j, hj, rfl, rfl⟩
  refine z_go ?_
  apply Sym.cond
  · rfl
  · intro hlt
    simp only [decide_eq_true_eq] at hlt
    have hj2 : j < z * z := by
      have : ((z * z : Nat) : Int) = (z : Int) * z := by simp
      omega
    have q1 : j / z < z := Nat.div_lt_of_lt_mul hj2
    have q2 : j % z < z := Nat.mod_lt _ (by omega)
    have hz144 : z * z ≤ 144 := Nat.mul_le_mul hz.2 hz.2
    have kp := fnPlace (j / z) (j % z)
    rw [Int.natCast_ediv, Int.natCast_emod] at kp
    have kt := fnConvT l a b wt o c' z (y0 + j / z) (x0 + j % z) j (l0 ++ (List.range j).map (cvTm a z wt o c' y0 x0)) hl ha hz.2 ho hcc hw (by omega) (by omega) (by omega) (by simp; omega)
    rw [hl, show tmAt a z wt o c' ((y0 + j / z : Nat) : Int) ((x0 + j % z : Nat) : Int) j = cvTm a z wt o c' y0 x0 j from rfl] at kt
    refine z_go ?_
    (apply Sym.drawL 11 (by kernel_rfl) (by kernel_rfl))
    have k1 := kp
    repeat ((with_reducible apply MTo.step1); exact z_gd; exact z_mop; exact rfl)
    ((with_reducible apply MTo.step1); exact z_gd; ((with_reducible apply MOp.addC); exact z_ev; exact z_ev; omega; omega; omega; omega); exact rfl)
    refine z_mt ?_
    ((with_reducible apply SymL.callM [0, 1, 2, 3, 4] kt); exact z_ren; exact z_evf; (refine ⟨?_, ?_, ?_, ?_, ?_, trivial⟩ <;> first | exact rfl | (simp only [Box.ren, D.enc, D.renL_p]; exact rfl)); decide; exact rfl; exact rfl; exact z_wrB; exact z_dd; exact z_ren; (simp only [Hp.clean, D.clean, D.cleanL, D.cleanL_p, bne, Nat.reduceBEq, Bool.not_true, Bool.not_false, cond_true, cond_false]; exact z_ren); exact z_cln)
    refine z_go ?_
    refine ⟨_, ?_, _, ⟨j + 1, by omega, rfl, rfl⟩, ?_⟩
    · omega
    · rw [show l0 ++ (List.range (j + 1)).map (cvTm a z wt o c' y0 x0) = (l0 ++ (List.range j).map (cvTm a z wt o c' y0 x0)) ++ [cvTm a z wt o c' y0 x0 j] by rw [List.range_succ, List.map_append, ← List.append_assoc]; rfl]
      exact z_wkt
  · intro hge
    simp only [decide_eq_false_iff_not] at hge
    obtain rfl : j = z * z := by
      have : ((z * z : Nat) : Int) = (z : Int) * z := by simp
      omega
    refine z_go ?_
    exact FinB.nxW [] z_wkt .nil
end Go.Proofs.Ytblabchnpkofgaa
