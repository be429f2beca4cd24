/- Package check: what comes out of a layer. -/
import Derived.Test.YtblabchnpkofgaaS4
set_option linter.unusedSimpArgs false
set_option linter.unusedVariables false
namespace Go.Proofs.Ytblabchnpkofgaa
open Go.RowKit Go.Sy
/-- what comes out of a layer, and does it fit? -/
def outOf (s : Sh) (l : Ly) : Sh × Bool :=
  if l.kind = 1 then shConv s l.out l.size l.step
  else if l.kind = 2 then (s, true)
  else if l.kind = 3 then shPool s l.size
  else if decide (l.out < 1) || decide (l.out > 8) then (shZ, false) else (⟨l.out, 1, 1⟩, true)
def wOf (s : Sh) (l : Ly) : Int := if l.kind = 1 then w64 (w64 (w64 (l.out * s.c) * l.size) * l.size) else if l.kind = 4 then w64 (l.out * shSize s) else 0
def pOf (s t : Sh) (l : Ly) : Int := if l.kind = 1 then w64 (w64 (wOf s l * t.h) * t.w) else if l.kind = 4 then wOf s l else if l.kind = 2 then shSize s else 0
/-- what is known of a layer -/
structure Lx where
  l : Ly
  inn : Sh
  out : Sh
  ws : Int
  ps : Int
abbrev lxOf (s : Sh) (l : Ly) : Lx := ⟨l, s, (outOf s l).1, wOf s l, pOf s (outOf s l).1 l⟩
abbrev encLx (x : Lx) : List V := [.i x.l.kind, .i x.l.out, .i x.l.size, .i x.l.step, .i x.inn.c, .i x.inn.h, .i x.inn.w, .i x.out.c, .i x.out.h, .i x.out.w, .i x.ws, .i x.ps]
abbrev lxV (x : Lx) : V := .agg (encLx x)
theorem fits1 {s : Sh} {l : Ly} (h : l.kind = 1) : outOf s l = shConv s l.out l.size l.step := by simp [outOf, h]
theorem fits2 {s : Sh} {l : Ly} (h : l.kind = 2) : outOf s l = (s, true) := by simp [outOf, h]
theorem fits3 {s : Sh} {l : Ly} (h : l.kind = 3) : outOf s l = shPool s l.size := by simp [outOf, h]
theorem fits4 {s : Sh} {l : Ly} (h : l.kind = 4) : (outOf s l).2 = (decide (l.out ≥ 1) && decide (l.out ≤ 8)) := by
  simp only [outOf, h, if_false, Int.reduceEq]
  split
  · rename_i h
    simp only [Bool.or_eq_true, decide_eq_true_eq] at h
    rw [Eq.comm, Bool.and_eq_false_iff, decide_eq_false_iff_not, decide_eq_false_iff_not]
    omega
  · rename_i h
    simp only [Bool.or_eq_true, decide_eq_true_eq] at h
    rw [Eq.comm, Bool.and_eq_true, decide_eq_true_eq, decide_eq_true_eq]
    omega
theorem fnMustV {b : Bool} (h : b = true) (e : Int) : Fn1 Try.prog 81 [.b b, .i e] (.tup []) := h ▸ fnMustT e
theorem fnMustP {b : Bool} (h : b = false) (e : Int) : FnP Try.prog 81 [.b b, .i e] (wrongV e) := h ▸ fnMustF e
theorem lxOf1 {s : Sh} {l : Ly} (h : l.kind = 1) : lxOf s l = ⟨l, s, (shConv s l.out l.size l.step).1, w64 (w64 (w64 (l.out * s.c) * l.size) * l.size), w64 (w64 (w64 (w64 (w64 (l.out * s.c) * l.size) * l.size) * (shConv s l.out l.size l.step).1.h) * (shConv s l.out l.size l.step).1.w)⟩ := by
  simp [lxOf, outOf, wOf, pOf, h]
theorem lxOf2 {s : Sh} {l : Ly} (h : l.kind = 2) : lxOf s l = ⟨l, s, s, 0, shSize s⟩ := by
  simp [lxOf, outOf, wOf, pOf, h]
theorem lxOf3 {s : Sh} {l : Ly} (h : l.kind = 3) : lxOf s l = ⟨l, s, (shPool s l.size).1, 0, 0⟩ := by
  simp [lxOf, outOf, wOf, pOf, h]
theorem lxOf4 {s : Sh} {l : Ly} (h : l.kind = 4) (hf : (outOf s l).2 = true) : lxOf s l = ⟨l, s, ⟨l.out, 1, 1⟩, w64 (l.out * shSize s), w64 (l.out * shSize s)⟩ := by
  have : (outOf s l).1 = ⟨l.out, 1, 1⟩ := by
    revert hf
    simp only [outOf, h, if_false, Int.reduceEq]
    split
    · intro h; cases h
    · intro _; rfl
  simp [lxOf, this, wOf, pOf, h]
theorem fnNextT {s : Sh} {l : Ly} (hk : 1 ≤ l.kind ∧ l.kind ≤ 4) (hs : shRight s = true) (hf : (outOf s l).2 = true) : Fn1 Try.prog 84 [shV s, lyV l] (lxV (lxOf s l)) := by
  have hs' : s.h ≤ 9223372036854775807 ∧ s.w ≤ 9223372036854775807 := by
    have := shRight_iff.1 hs
    omega
  refine Fn1.of (rs := [lxV (lxOf s l)]) (res := [.cell 4 85]) Try.call84 Try.func84 rfl Try.ntmps84 rfl (by simp) fun c hc => ?_
  refine z_go ?_
  apply Sym.cond
  · rfl
  · intro h
    have h : l.kind = 1 := by simpa using h
    rw [fits1 h] at hf
    have k1 := fnShConv s l.out l.size l.step hs'; have k2 := fnMustV hf 21; refine z_go ?_
    rw [lxOf1 h]
    with_reducible first | apply Fin.rt | apply Fin.nx
    exact .cons (.cellA inferInstance rfl rfl rfl (Nat.le_of_ble_eq_true rfl) (.of (.of rfl))) .nil
  · intro h1
    have h1 : ¬ l.kind = 1 := by simpa using h1
    refine z_go ?_
    apply Sym.cond
    · rfl
    · intro h
      have h : l.kind = 2 := by simpa using h
      rw [fits2 h] at hf
      have k1 := fnShSize s; have k2 := fnMustT 21; refine z_go ?_
      rw [lxOf2 h]
      with_reducible first | apply Fin.rt | apply Fin.nx
      exact .cons (.cellA inferInstance rfl rfl rfl (Nat.le_of_ble_eq_true rfl) (.of (.of rfl))) .nil
    · intro h2
      have h2 : ¬ l.kind = 2 := by simpa using h2
      refine z_go ?_
      apply Sym.cond
      · rfl
      · intro h
        have h : l.kind = 3 := by simpa using h
        rw [fits3 h] at hf
        have k1 := fnShPool s l.size; have k2 := fnMustV hf 21; refine z_go ?_
        rw [lxOf3 h]
        with_reducible first | apply Fin.rt | apply Fin.nx
        exact .cons (.cellA inferInstance rfl rfl rfl (Nat.le_of_ble_eq_true rfl) (.of (.of rfl))) .nil
      · intro h3
        have h3 : ¬ l.kind = 3 := by simpa using h3
        obtain h : l.kind = 4 := by omega
        rw [fits4 h] at hf
        apply Sym.seq
        (apply Sym.drawXL [12] (by kernel_rfl) (by kernel_rfl) (by kernel_rfl))
        refine z_xgo ?_
        refine z_go ?_
        (apply Sym.drawXL [6] (by kernel_rfl) (by kernel_rfl) (by kernel_rfl))
        have k1 := fnShSize s; refine z_xgo ?_
        have k1 := fnMustV hf 21; refine z_go ?_
        rw [lxOf4 h (fits4 h ▸ hf)]
        with_reducible first | apply Fin.rt | apply Fin.nx
        exact .cons (.cellA inferInstance rfl rfl rfl (Nat.le_of_ble_eq_true rfl) (.of (.of rfl))) .nil
theorem fnNextF {s : Sh} {l : Ly} (hk : 1 ≤ l.kind ∧ l.kind ≤ 4) (hs : shRight s = true) (hf : (outOf s l).2 = false) : FnP Try.prog 84 [shV s, lyV l] (wrongV 21) := by
  have hs' : s.h ≤ 9223372036854775807 ∧ s.w ≤ 9223372036854775807 := by
    have := shRight_iff.1 hs
    omega
  refine FnP.of Try.call84 Try.func84 rfl Try.ntmps84 (by simp) fun c hc => ?_
  refine z_go ?_
  apply Sym.cond
  · rfl
  · intro h
    have h : l.kind = 1 := by simpa using h
    rw [fits1 h] at hf
    have k1 := fnShConv s l.out l.size l.step hs'; have k2 := fnShSize s; refine z_go ?_
    refine SymL.callP (fnMustP hf 21) z_ev (by (repeat (first | exact EvL.nil | (apply EvL.cons; exact z_ev; exact .of rfl))); (first | done | fail)) ?_
    exact rfl
  · intro h1
    have h1 : ¬ l.kind = 1 := by simpa using h1
    refine z_go ?_
    apply Sym.cond
    · rfl
    · intro h
      have h : l.kind = 2 := by simpa using h
      rw [fits2 h] at hf
      cases hf
    · intro h2
      have h2 : ¬ l.kind = 2 := by simpa using h2
      refine z_go ?_
      apply Sym.cond
      · rfl
      · intro h
        have h : l.kind = 3 := by simpa using h
        rw [fits3 h] at hf
        have k1 := fnShPool s l.size; have k2 := fnShSize s; refine z_go ?_
        refine SymL.callP (fnMustP hf 21) z_ev (by (repeat (first | exact EvL.nil | (apply EvL.cons; exact z_ev; exact .of rfl))); (first | done | fail)) ?_
        exact rfl
      · intro h3
        have h3 : ¬ l.kind = 3 := by simpa using h3
        obtain h : l.kind = 4 := by omega
        rw [fits4 h] at hf
        apply Sym.seq
        (apply Sym.drawXL [12] (by kernel_rfl) (by kernel_rfl) (by kernel_rfl))
        refine z_xgo ?_
        refine z_go ?_
        (apply Sym.drawXL [6] (by kernel_rfl) (by kernel_rfl) (by kernel_rfl))
        have k1 := fnShSize s; refine z_xgo ?_
        have k1 := fnShSize s; refine z_go ?_
        refine SymL.callP (fnMustP hf 21) z_ev (by (repeat (first | exact EvL.nil | (apply EvL.cons; exact z_ev; exact .of rfl))); (first | done | fail)) ?_
        exact rfl
end Go.Proofs.Ytblabchnpkofgaa
