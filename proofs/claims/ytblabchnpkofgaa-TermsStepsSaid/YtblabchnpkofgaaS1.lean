/- Shapes: the contracts of package shape, and of the document's answer. -/
import Derived.Test.YtblabchnpkofgaaDs
import Derived.Test.YtblabchnpkofgaaDu
import Derived.Test.YtblabchnpkofgaaDt
set_option linter.unusedSimpArgs false
set_option linter.unusedVariables false
namespace Go.Proofs.Ytblabchnpkofgaa
open Go.RowKit Go.Sy
structure Sh where
  c : Int
  h : Int
  w : Int
  deriving DecidableEq
abbrev shV (s : Sh) : V := .agg [.i s.c, .i s.h, .i s.w]
abbrev shBox (s : Sh) : Box := ⟨[.p (.i s.c), .p (.i s.h), .p (.i s.w)], 23, 0⟩
abbrev iBox (n : Int) : Box := ⟨[.p (.i n)], 3, 0⟩
abbrev shZ : Sh := ⟨0, 0, 0⟩
abbrev wi (n a b : Int) : Bool := decide (n ≥ a) && decide (n ≤ b)
abbrev w64 (n : Int) : Int := IntKind.i64.wrap n
theorem fnShWithin (n a b : Int) : Fn1 Try.prog 86 [.i n, .i a, .i b] (.b (wi n a b)) := by
  refine Fn1.of (rs := [.b (wi n a b)]) (res := [.tmp 6]) Try.call86 Try.func86 rfl Try.ntmps86 rfl (by simp) fun c hc => ?_
  refine z_go ?_
  with_reducible first | apply Fin.rt | apply Fin.nx
  exact (.cons (.tmp rfl (.of (.of rfl))) .nil)
/-- may a shape be so? -/
def shRight (s : Sh) : Bool := wi s.c 1 8 && wi s.h 1 12 && wi s.w 1 12 && decide (s.c * s.h * s.w ≤ 128)
theorem mul3 {c h w : Int} (hc : 1 ≤ c ∧ c ≤ 8) (hh : 1 ≤ h ∧ h ≤ 12) (hw : 1 ≤ w ∧ w ≤ 12) : 1 ≤ c * h ∧ c * h ≤ 96 ∧ 1 ≤ c * h * w ∧ c * h * w ≤ 1152 := by
  have h1 : 1 * 1 ≤ c * h := Int.mul_le_mul hc.1 hh.1 (by omega) (by omega)
  have h2 : c * h ≤ 8 * 12 := Int.mul_le_mul hc.2 hh.2 (by omega) (by omega)
  have h3 : 1 * 1 ≤ c * h * w := Int.mul_le_mul (by omega) hw.1 (by omega) (by omega)
  have h4 : c * h * w ≤ 96 * 12 := Int.mul_le_mul (by omega) hw.2 (by omega) (by omega)
  omega
theorem shRight_iff {s : Sh} : shRight s = true ↔ (1 ≤ s.c ∧ s.c ≤ 8) ∧ (1 ≤ s.h ∧ s.h ≤ 12) ∧ (1 ≤ s.w ∧ s.w ≤ 12) ∧ s.c * s.h * s.w ≤ 128 := by
  simp only [shRight, wi, Bool.and_eq_true, decide_eq_true_eq]
  constructor
  · rintro ⟨⟨⟨h1, h2⟩, h3⟩, h4⟩
    exact ⟨by omega, by omega, by omega, h4⟩
  · rintro ⟨h1, h2, h3, h4⟩
    exact ⟨⟨⟨by omega, by omega⟩, by omega⟩, h4⟩
theorem shRight_w (s : Sh) : (wi s.c 1 8 && wi s.h 1 12 && wi s.w 1 12 && decide (w64 (w64 (s.c * s.h) * s.w) ≤ 128)) = shRight s := by
  unfold shRight
  by_cases h : (wi s.c 1 8 && wi s.h 1 12 && wi s.w 1 12) = true
  · have h' := h
    simp only [wi, Bool.and_eq_true, decide_eq_true_eq] at h'
    have hm := mul3 (c := s.c) (h := s.h) (w := s.w) (by omega) (by omega) (by omega)
    rw [show w64 (s.c * s.h) = s.c * s.h from wrap_in _ (by omega) (by omega), show w64 (s.c * s.h * s.w) = s.c * s.h * s.w from wrap_in _ (by omega) (by omega)]
  · rw [Bool.not_eq_true] at h
    rw [h, Bool.false_and, Bool.false_and]
theorem fnShRight (s : Sh) : Fn1 Try.prog 83 [shV s] (.b (shRight s)) := by
  rw [← shRight_w]
  refine Fn1.of (rs := [.b _]) (res := [.tmp 2]) Try.call83 Try.func83 rfl Try.ntmps83 rfl (by simp) fun c hc => ?_
  have k1 := fnShWithin s.c 1 8; have k2 := fnShWithin s.h 1 12; have k3 := fnShWithin s.w 1 12; refine z_go ?_
  with_reducible first | apply Fin.rt | apply Fin.nx
  exact (.cons (.tmp rfl (.of (.of rfl))) .nil)
theorem fnRShRight (s : Sh) : Fn1 Try.prog 37 [shV s] (.b (shRight s)) := by
  rw [← shRight_w]
  refine Fn1.of (rs := [.b _]) (res := [.tmp 2]) Try.call37 Try.func37 rfl Try.ntmps37 rfl (by simp) fun c hc => ?_
  refine z_go ?_
  with_reducible first | apply Fin.rt | apply Fin.nx
  refine .cons (.tmp rfl (.of (.of ?_))) .nil
  simp [D.toV, wi, Bool.and_assoc]
def shSize (s : Sh) : Int := if shRight s then s.c * s.h * s.w else 0
theorem shMul {s : Sh} (h : shRight s = true) : 1 ≤ s.c * s.h ∧ s.c * s.h ≤ 96 ∧ 1 ≤ s.c * s.h * s.w ∧ s.c * s.h * s.w ≤ 128 := by
  obtain ⟨h1, h2, h3, h4⟩ := shRight_iff.1 h
  have := mul3 h1 h2 h3
  omega
theorem fnShSize (s : Sh) : Fn1 Try.prog 67 [shV s] (.i (shSize s)) := by
  refine Fn1.of (rs := [.i (shSize s)]) (res := [.tmp 2]) Try.call67 Try.func67 rfl Try.ntmps67 rfl (by simp) fun c hc => ?_
  have k1 := fnShRight s; refine z_go ?_
  apply Sym.cond
  · rfl
  · intro h
    have h : shRight s = false := by simpa using h
    rw [show shSize s = 0 by simp [shSize, h]]
    refine z_go ?_
    with_reducible first | apply Fin.rt | apply Fin.nx
    exact (.cons (.tmp rfl (.of (.of rfl))) .nil)
  · intro h
    have h : shRight s = true := by simpa using h
    have hm := shMul h
    rw [show shSize s = s.c * s.h * s.w by simp [shSize, h]]
    refine z_go ?_
    with_reducible first | apply Fin.rt | apply Fin.nx
    exact (.cons (.tmp rfl (.of (.of rfl))) .nil)
theorem fnRShSize (s : Sh) : Fn1 Try.prog 38 [shV s] (.i (shSize s)) := by
  refine Fn1.of (rs := [.i (shSize s)]) (res := [.tmp 2]) Try.call38 Try.func38 rfl Try.ntmps38 rfl (by simp) fun c hc => ?_
  have k1 := fnRShRight s; refine z_go ?_
  apply Sym.cond
  · rfl
  · intro h
    have h : shRight s = false := by simpa using h
    rw [show shSize s = 0 by simp [shSize, h]]
    refine z_go ?_
    with_reducible first | apply Fin.rt | apply Fin.nx
    exact (.cons (.tmp rfl (.of (.of rfl))) .nil)
  · intro h
    have h : shRight s = true := by simpa using h
    have hm := shMul h
    rw [show shSize s = s.c * s.h * s.w by simp [shSize, h]]
    refine z_go ?_
    with_reducible first | apply Fin.rt | apply Fin.nx
    exact (.cons (.tmp rfl (.of (.of rfl))) .nil)
/-! ### what comes of windows, and of blocks -/
def conv1 (size step n : Int) : Int := if wi size 1 n && wi step 1 12 then (n - size) / step + 1 else 0
def pool1 (size n : Int) : Int := if decide (size < 1) || n.tmod size != 0 then 0 else w64 (n.tdiv size)
def shSized (s t : Sh) : Sh × Bool := if shRight s && shRight t then (t, true) else (shZ, false)
def shConv (s : Sh) (out size step : Int) : Sh × Bool := shSized s ⟨out, conv1 size step s.h, conv1 size step s.w⟩
def shPool (s : Sh) (size : Int) : Sh × Bool := shSized s ⟨s.c, pool1 size s.h, pool1 size s.w⟩
theorem fnConv1 (size step n : Int) (hn : n ≤ 9223372036854775807) : FnR Try.prog 97 [.p (.i n), .ptr 0 0, .ptr 1 0] [some (iBox size), some (iBox step)] (.i (conv1 size step n)) := by
  refine FnR.of (rs := [.i (conv1 size step n)]) (res := [.tmp 4]) Try.call97 Try.func97 rfl Try.ntmps97 rfl (by simp) rfl rfl fun c hro hc hdead => ?_
  have k1 := fnShWithin size 1 n; have k2 := fnShWithin step 1 12; refine z_go ?_
  apply Sym.cond
  · rfl
  · intro h
    rw [show conv1 size step n = 0 by
      simp only [Bool.or_eq_true, Bool.not_eq_true'] at h
      unfold conv1
      rcases h with h | h <;> simp [h]]
    refine z_go ?_
    with_reducible first | apply Fin.rt | apply Fin.nx
    exact (.cons (.tmp rfl (.of (.of rfl))) .nil)
  · intro h
    simp only [Bool.or_eq_false_iff, Bool.not_eq_false'] at h
    rw [show conv1 size step n = (n - size) / step + 1 by simp [conv1, h.1, h.2]]
    obtain ⟨h1, h2⟩ := h
    simp only [wi, Bool.and_eq_true, decide_eq_true_eq] at h1 h2
    have h5 := Int.ediv_le_self (a := n - size) step (by omega)
    have h6 := Int.ediv_nonneg (a := n - size) (b := step) (by omega) (by omega)
    refine z_go ?_
    with_reducible first | apply Fin.rt | apply Fin.nx
    exact (.cons (.tmp rfl (.of (.of rfl))) .nil)
theorem fnPool1 (size n : Int) : FnR Try.prog 98 [.p (.i n), .ptr 0 0] [some (iBox size)] (.i (pool1 size n)) := by
  refine FnR.of (rs := [.i (pool1 size n)]) (res := [.tmp 3]) Try.call98 Try.func98 rfl Try.ntmps98 rfl (by simp) rfl rfl fun c hro hc hdead => ?_
  refine z_go ?_
  apply Sym.cond
  · rfl
  · intro h
    rw [show pool1 size n = 0 from if_pos h]
    refine z_go ?_
    with_reducible first | apply Fin.rt | apply Fin.nx
    exact (.cons (.tmp rfl (.of (.of rfl))) .nil)
  · intro h
    rw [show pool1 size n = w64 (n.tdiv size) from if_neg (by rw [h]; simp)]
    simp only [Bool.or_eq_false_iff, decide_eq_false_iff_not] at h
    refine z_go ?_
    with_reducible first | apply Fin.rt | apply Fin.nx
    exact (.cons (.tmp rfl (.of (.of rfl))) .nil)
theorem fnSizedC (s : Sh) (ch size step : Int) (hs : s.h ≤ 9223372036854775807 ∧ s.w ≤ 9223372036854775807) : FnR Try.prog 96 [.p (shV s), .p (.i ch), .clo (.func 97) [] [.ptr 0 0, .ptr 1 0]] [some (iBox size), some (iBox step)]
    (.tup [shV (shSized s ⟨ch, conv1 size step s.h, conv1 size step s.w⟩).1, .b (shSized s ⟨ch, conv1 size step s.h, conv1 size step s.w⟩).2]) := by
  refine FnR.of (rs := [shV _, .b _]) (res := [.cell 6 23, .tmp 7]) Try.call96 Try.func96 rfl Try.ntmps96 rfl (by simp) rfl rfl fun c hro hc hdead => ?_
  refine z_go ?_
  (apply Sym.drawXL [10, 11] (by kernel_rfl) (by kernel_rfl) (by kernel_rfl))
  have k1 := (fnConv1 size step s.h hs.1).at [0, 1]; have k2 := (fnConv1 size step s.w hs.2).at [0, 1]; refine z_xgo ?_
  have k1 := fnShRight s; have k2 := fnShRight ⟨ch, conv1 size step s.h, conv1 size step s.w⟩; refine z_go ?_
  apply Sym.cond
  · rfl
  · intro h
    rw [show shSized s ⟨ch, conv1 size step s.h, conv1 size step s.w⟩ = (_, true) from if_pos h]
    refine z_go ?_
    with_reducible first | apply Fin.rt | apply Fin.nx
    exact .cons (.cellA inferInstance rfl rfl rfl (Nat.le_of_ble_eq_true rfl) (.of (.of rfl))) (.cons (.tmp rfl (.of (.of rfl))) .nil)
  · intro h
    rw [show shSized s ⟨ch, conv1 size step s.h, conv1 size step s.w⟩ = (shZ, false) from if_neg (by rw [h]; simp)]
    refine z_go ?_
    with_reducible first | apply Fin.rt | apply Fin.nx
    exact .cons (.cellA inferInstance rfl rfl rfl (Nat.le_of_ble_eq_true rfl) (.of (.of rfl))) (.cons (.tmp rfl (.of (.of rfl))) .nil)
theorem fnSizedP (s : Sh) (ch size : Int) : FnR Try.prog 96 [.p (shV s), .p (.i ch), .clo (.func 98) [] [.ptr 0 0]] [some (iBox size)]
    (.tup [shV (shSized s ⟨ch, pool1 size s.h, pool1 size s.w⟩).1, .b (shSized s ⟨ch, pool1 size s.h, pool1 size s.w⟩).2]) := by
  refine FnR.of (rs := [shV _, .b _]) (res := [.cell 6 23, .tmp 7]) Try.call96 Try.func96 rfl Try.ntmps96 rfl (by simp) rfl rfl fun c hro hc hdead => ?_
  refine z_go ?_
  (apply Sym.drawXL [10, 11] (by kernel_rfl) (by kernel_rfl) (by kernel_rfl))
  have k1 := (fnPool1 size s.h).at [0]; have k2 := (fnPool1 size s.w).at [0]; refine z_xgo ?_
  have k1 := fnShRight s; have k2 := fnShRight ⟨ch, pool1 size s.h, pool1 size s.w⟩; refine z_go ?_
  apply Sym.cond
  · rfl
  · intro h
    rw [show shSized s ⟨ch, pool1 size s.h, pool1 size s.w⟩ = (_, true) from if_pos h]
    refine z_go ?_
    with_reducible first | apply Fin.rt | apply Fin.nx
    exact .cons (.cellA inferInstance rfl rfl rfl (Nat.le_of_ble_eq_true rfl) (.of (.of rfl))) (.cons (.tmp rfl (.of (.of rfl))) .nil)
  · intro h
    rw [show shSized s ⟨ch, pool1 size s.h, pool1 size s.w⟩ = (shZ, false) from if_neg (by rw [h]; simp)]
    refine z_go ?_
    with_reducible first | apply Fin.rt | apply Fin.nx
    exact .cons (.cellA inferInstance rfl rfl rfl (Nat.le_of_ble_eq_true rfl) (.of (.of rfl))) (.cons (.tmp rfl (.of (.of rfl))) .nil)
theorem fnShConv (s : Sh) (out size step : Int) (hs : s.h ≤ 9223372036854775807 ∧ s.w ≤ 9223372036854775807) : Fn1 Try.prog 94 [shV s, .i out, .i size, .i step] (.tup [shV (shConv s out size step).1, .b (shConv s out size step).2]) := by
  refine Fn1.of (rs := [shV _, .b _]) (res := [.cell 8 23, .tmp 9]) Try.call94 Try.func94 rfl Try.ntmps94 rfl (by simp) fun c hc => ?_
  have k1 := (fnSizedC s out size step hs).at [1, 2]; refine z_go ?_
  with_reducible first | apply Fin.rt | apply Fin.nx
  exact .cons (.cellA inferInstance rfl rfl rfl (Nat.le_of_ble_eq_true rfl) (.of (.of rfl))) (.cons (.tmp rfl (.of (.of rfl))) .nil)
theorem fnShPool (s : Sh) (size : Int) : Fn1 Try.prog 95 [shV s, .i size] (.tup [shV (shPool s size).1, .b (shPool s size).2]) := by
  refine Fn1.of (rs := [shV _, .b _]) (res := [.cell 4 23, .tmp 5]) Try.call95 Try.func95 rfl Try.ntmps95 rfl (by simp) fun c hc => ?_
  have k1 := (fnSizedP s s.c size).at [1]; refine z_go ?_
  with_reducible first | apply Fin.rt | apply Fin.nx
  exact .cons (.cellA inferInstance rfl rfl rfl (Nat.le_of_ble_eq_true rfl) (.of (.of rfl))) (.cons (.tmp rfl (.of (.of rfl))) .nil)
end Go.Proofs.Ytblabchnpkofgaa
