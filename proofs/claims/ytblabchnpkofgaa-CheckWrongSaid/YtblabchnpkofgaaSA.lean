/- Shapes: the contracts of package shape, and of the document's answer. Networks: their forms; the contracts of package descr's Form, and of the document's answer; shapes' windows and blocks of the answer. Forms: package descr's numbers and Form. Package check: its panic and what recovers it. Package check: what comes out of a layer. -/
import Derived.Test.YtblabchnpkofgaaDC
import Derived.Test.YtblabchnpkofgaaDt
set_option linter.unusedSimpArgs false
set_option linter.unusedVariables false
namespace Go.Proofs.Ytblabchnpkofgaa
open Go.RowKit Go.Sy
structure Sh where
  c : Int
  h : Int
  w : Int
  deriving DecidableEq
abbrev shV (s : Sh) : V := .agg [.i s.c, .i s.h, .i s.w]
abbrev shBox (s : Sh) : Box := ⟨[.p (.i s.c), .p (.i s.h), .p (.i s.w)], 23, 0⟩
abbrev iBox (n : Int) : Box := ⟨[.p (.i n)], 3, 0⟩
abbrev shZ : Sh := ⟨0, 0, 0⟩
abbrev wi (n a b : Int) : Bool := decide (n ≥ a) && decide (n ≤ b)
abbrev w64 (n : Int) : Int := IntKind.i64.wrap n
theorem fnShWithin (n a b : Int) : Fn1 Try.prog 86 [.i n, .i a, .i b] (.b (wi n a b)) := by
  refine Fn1.of (rs := [.b (wi n a b)]) (res := [.tmp 6]) Try.call86 Try.func86 rfl Try.ntmps86 rfl (by simp) fun c hc => ?_
  refine z_go ?_
  with_reducible first | apply Fin.rt | apply Fin.nx
  exact (.cons (.tmp rfl (.of (.of rfl))) .nil)
/-- may a shape be so? -/
def shRight (s : Sh) : Bool := wi s.c 1 8 && wi s.h 1 12 && wi s.w 1 12 && decide (s.c * s.h * s.w ≤ 128)
theorem mul3 {c h w : Int} (hc : 1 ≤ c ∧ c ≤ 8) (hh : 1 ≤ h ∧ h ≤ 12) (hw : 1 ≤ w ∧ w ≤ 12) : 1 ≤ c * h ∧ c * h ≤ 96 ∧ 1 ≤ c * h * w ∧ c * h * w ≤ 1152 := by
  have h1 : 1 * 1 ≤ c * h := Int.mul_le_mul hc.1 hh.1 (by omega) (by omega)
  have h2 : c * h ≤ 8 * 12 := Int.mul_le_mul hc.2 hh.2 (by omega) (by omega)
  have h3 : 1 * 1 ≤ c * h * w := Int.mul_le_mul (by omega) hw.1 (by omega) (by omega)
  have h4 : c * h * w ≤ 96 * 12 := Int.mul_le_mul (by omega) hw.2 (by omega) (by omega)
  omega
theorem shRight_iff {s : Sh} : shRight s = true ↔ (1 ≤ s.c ∧ s.c ≤ 8) ∧ (1 ≤ s.h ∧ s.h ≤ 12) ∧ (1 ≤ s.w ∧ s.w ≤ 12) ∧ s.c * s.h * s.w ≤ 128 := by
  simp only [shRight, wi, Bool.and_eq_true, decide_eq_true_eq]
  constructor
  · rintro ⟨⟨⟨h1, h2⟩, h3⟩, h4⟩
    exact ⟨by omega, by omega, by omega, h4⟩
  · rintro ⟨h1, h2, h3, h4⟩
    exact ⟨⟨⟨by omega, by omega⟩, by omega⟩, h4⟩
theorem shRight_w (s : Sh) : (wi s.c 1 8 && wi s.h 1 12 && wi s.w 1 12 && decide (w64 (w64 (s.c * s.h) * s.w) ≤ 128)) = shRight s := by
  unfold shRight
  by_cases h : (wi s.c 1 8 && wi s.h 1 12 && wi s.w 1 12) = true
  · have h' := h
    simp only [wi, Bool.and_eq_true, decide_eq_true_eq] at h'
    have hm := mul3 (c := s.c) (h := s.h) (w := s.w) (by omega) (by omega) (by omega)
    rw [show w64 (s.c * s.h) = s.c * s.h from wrap_in _ (by omega) (by omega), show w64 (s.c * s.h * s.w) = s.c * s.h * s.w from wrap_in _ (by omega) (by omega)]
  · rw [Bool.not_eq_true] at h
    rw [h, Bool.false_and, Bool.false_and]
theorem fnShRight (s : Sh) : Fn1 Try.prog 83 [shV s] (.b (shRight s)) := by
  rw [← shRight_w]
  refine Fn1.of (rs := [.b _]) (res := [.tmp 2]) Try.call83 Try.func83 rfl Try.ntmps83 rfl (by simp) fun c hc => ?_
  have k1 := fnShWithin s.c 1 8; have k2 := fnShWithin s.h 1 12; have k3 := fnShWithin s.w 1 12; refine z_go ?_
  with_reducible first | apply Fin.rt | apply Fin.nx
  exact (.cons (.tmp rfl (.of (.of rfl))) .nil)
theorem fnRShRight (s : Sh) : Fn1 Try.prog 37 [shV s] (.b (shRight s)) := by
  rw [← shRight_w]
  refine Fn1.of (rs := [.b _]) (res := [.tmp 2]) Try.call37 Try.func37 rfl Try.ntmps37 rfl (by simp) fun c hc => ?_
  refine z_go ?_
  with_reducible first | apply Fin.rt | apply Fin.nx
  refine .cons (.tmp rfl (.of (.of ?_))) .nil
  simp [D.toV, wi, Bool.and_assoc]
def shSize (s : Sh) : Int := if shRight s then s.c * s.h * s.w else 0
theorem shMul {s : Sh} (h : shRight s = true) : 1 ≤ s.c * s.h ∧ s.c * s.h ≤ 96 ∧ 1 ≤ s.c * s.h * s.w ∧ s.c * s.h * s.w ≤ 128 := by
  obtain ⟨h1, h2, h3, h4⟩ := shRight_iff.1 h
  have := mul3 h1 h2 h3
  omega
theorem fnShSize (s : Sh) : Fn1 Try.prog 67 [shV s] (.i (shSize s)) := by
  refine Fn1.of (rs := [.i (shSize s)]) (res := [.tmp 2]) Try.call67 Try.func67 rfl Try.ntmps67 rfl (by simp) fun c hc => ?_
  have k1 := fnShRight s; refine z_go ?_
  apply Sym.cond
  · rfl
  · intro h
    have h : shRight s = false := by simpa using h
    rw [show shSize s = 0 by simp [shSize, h]]
    refine z_go ?_
    with_reducible first | apply Fin.rt | apply Fin.nx
    exact (.cons (.tmp rfl (.of (.of rfl))) .nil)
  · intro h
    have h : shRight s = true := by simpa using h
    have hm := shMul h
    rw [show shSize s = s.c * s.h * s.w by simp [shSize, h]]
    refine z_go ?_
    with_reducible first | apply Fin.rt | apply Fin.nx
    exact (.cons (.tmp rfl (.of (.of rfl))) .nil)
theorem fnRShSize (s : Sh) : Fn1 Try.prog 38 [shV s] (.i (shSize s)) := by
  refine Fn1.of (rs := [.i (shSize s)]) (res := [.tmp 2]) Try.call38 Try.func38 rfl Try.ntmps38 rfl (by simp) fun c hc => ?_
  have k1 := fnRShRight s; refine z_go ?_
  apply Sym.cond
  · rfl
  · intro h
    have h : shRight s = false := by simpa using h
    rw [show shSize s = 0 by simp [shSize, h]]
    refine z_go ?_
    with_reducible first | apply Fin.rt | apply Fin.nx
    exact (.cons (.tmp rfl (.of (.of rfl))) .nil)
  · intro h
    have h : shRight s = true := by simpa using h
    have hm := shMul h
    rw [show shSize s = s.c * s.h * s.w by simp [shSize, h]]
    refine z_go ?_
    with_reducible first | apply Fin.rt | apply Fin.nx
    exact (.cons (.tmp rfl (.of (.of rfl))) .nil)
/-! ### what comes of windows, and of blocks -/
def conv1 (size step n : Int) : Int := if wi size 1 n && wi step 1 12 then (n - size) / step + 1 else 0
def pool1 (size n : Int) : Int := if decide (size < 1) || n.tmod size != 0 then 0 else w64 (n.tdiv size)
def shSized (s t : Sh) : Sh × Bool := if shRight s && shRight t then (t, true) else (shZ, false)
def shConv (s : Sh) (out size step : Int) : Sh × Bool := shSized s ⟨out, conv1 size step s.h, conv1 size step s.w⟩
def shPool (s : Sh) (size : Int) : Sh × Bool := shSized s ⟨s.c, pool1 size s.h, pool1 size s.w⟩
theorem fnConv1 (size step n : Int) (hn : n ≤ 9223372036854775807) : FnR Try.prog 97 [.p (.i n), .ptr 0 0, .ptr 1 0] [some (iBox size), some (iBox step)] (.i (conv1 size step n)) := by
  refine FnR.of (rs := [.i (conv1 size step n)]) (res := [.tmp 4]) Try.call97 Try.func97 rfl Try.ntmps97 rfl (by simp) rfl rfl fun c hro hc hdead => ?_
  have k1 := fnShWithin size 1 n; have k2 := fnShWithin step 1 12; refine z_go ?_
  apply Sym.cond
  · rfl
  · intro h
    rw [show conv1 size step n = 0 by
      simp only [Bool.or_eq_true, Bool.not_eq_true'] at h
      unfold conv1
      rcases h with h | h <;> simp [h]]
    refine z_go ?_
    with_reducible first | apply Fin.rt | apply Fin.nx
    exact (.cons (.tmp rfl (.of (.of rfl))) .nil)
  · intro h
    simp only [Bool.or_eq_false_iff, Bool.not_eq_false'] at h
    rw [show conv1 size step n = (n - size) / step + 1 by simp [conv1, h.1, h.2]]
    obtain ⟨h1, h2⟩ := h
    simp only [wi, Bool.and_eq_true, decide_eq_true_eq] at h1 h2
    have h5 := Int.ediv_le_self (a := n - size) step (by omega)
    have h6 := Int.ediv_nonneg (a := n - size) (b := step) (by omega) (by omega)
    refine z_go ?_
    with_reducible first | apply Fin.rt | apply Fin.nx
    exact (.cons (.tmp rfl (.of (.of rfl))) .nil)
theorem fnPool1 (size n : Int) : FnR Try.prog 98 [.p (.i n), .ptr 0 0] [some (iBox size)] (.i (pool1 size n)) := by
  refine FnR.of (rs := [.i (pool1 size n)]) (res := [.tmp 3]) Try.call98 Try.func98 rfl Try.ntmps98 rfl (by simp) rfl rfl fun c hro hc hdead => ?_
  refine z_go ?_
  apply Sym.cond
  · rfl
  · intro h
    rw [show pool1 size n = 0 from if_pos h]
    refine z_go ?_
    with_reducible first | apply Fin.rt | apply Fin.nx
    exact (.cons (.tmp rfl (.of (.of rfl))) .nil)
  · intro h
    rw [show pool1 size n = w64 (n.tdiv size) from if_neg (by rw [h]; simp)]
    simp only [Bool.or_eq_false_iff, decide_eq_false_iff_not] at h
    refine z_go ?_
    with_reducible first | apply Fin.rt | apply Fin.nx
    exact (.cons (.tmp rfl (.of (.of rfl))) .nil)
theorem fnSizedC (s : Sh) (ch size step : Int) (hs : s.h ≤ 9223372036854775807 ∧ s.w ≤ 9223372036854775807) : FnR Try.prog 96 [.p (shV s), .p (.i ch), .clo (.func 97) [] [.ptr 0 0, .ptr 1 0]] [some (iBox size), some (iBox step)]
    (.tup [shV (shSized s ⟨ch, conv1 size step s.h, conv1 size step s.w⟩).1, .b (shSized s ⟨ch, conv1 size step s.h, conv1 size step s.w⟩).2]) := by
  refine FnR.of (rs := [shV _, .b _]) (res := [.cell 6 23, .tmp 7]) Try.call96 Try.func96 rfl Try.ntmps96 rfl (by simp) rfl rfl fun c hro hc hdead => ?_
  refine z_go ?_
  (apply Sym.drawXL [10, 11] (by kernel_rfl) (by kernel_rfl) (by kernel_rfl))
  have k1 := (fnConv1 size step s.h hs.1).at [0, 1]; have k2 := (fnConv1 size step s.w hs.2).at [0, 1]; refine z_xgo ?_
  have k1 := fnShRight s; have k2 := fnShRight ⟨ch, conv1 size step s.h, conv1 size step s.w⟩; refine z_go ?_
  apply Sym.cond
  · rfl
  · intro h
    rw [show shSized s ⟨ch, conv1 size step s.h, conv1 size step s.w⟩ = (_, true) from if_pos h]
    refine z_go ?_
    with_reducible first | apply Fin.rt | apply Fin.nx
    exact .cons (.cellA inferInstance rfl rfl rfl (Nat.le_of_ble_eq_true rfl) (.of (.of rfl))) (.cons (.tmp rfl (.of (.of rfl))) .nil)
  · intro h
    rw [show shSized s ⟨ch, conv1 size step s.h, conv1 size step s.w⟩ = (shZ, false) from if_neg (by rw [h]; simp)]
    refine z_go ?_
    with_reducible first | apply Fin.rt | apply Fin.nx
    exact .cons (.cellA inferInstance rfl rfl rfl (Nat.le_of_ble_eq_true rfl) (.of (.of rfl))) (.cons (.tmp rfl (.of (.of rfl))) .nil)
theorem fnSizedP (s : Sh) (ch size : Int) : FnR Try.prog 96 [.p (shV s), .p (.i ch), .clo (.func 98) [] [.ptr 0 0]] [some (iBox size)]
    (.tup [shV (shSized s ⟨ch, pool1 size s.h, pool1 size s.w⟩).1, .b (shSized s ⟨ch, pool1 size s.h, pool1 size s.w⟩).2]) := by
  refine FnR.of (rs := [shV _, .b _]) (res := [.cell 6 23, .tmp 7]) Try.call96 Try.func96 rfl Try.ntmps96 rfl (by simp) rfl rfl fun c hro hc hdead => ?_
  refine z_go ?_
  (apply Sym.drawXL [10, 11] (by kernel_rfl) (by kernel_rfl) (by kernel_rfl))
  have k1 := (fnPool1 size s.h).at [0]; have k2 := (fnPool1 size s.w).at [0]; refine z_xgo ?_
  have k1 := fnShRight s; have k2 := fnShRight ⟨ch, pool1 size s.h, pool1 size s.w⟩; refine z_go ?_
  apply Sym.cond
  · rfl
  · intro h
    rw [show shSized s ⟨ch, pool1 size s.h, pool1 size s.w⟩ = (_, true) from if_pos h]
    refine z_go ?_
    with_reducible first | apply Fin.rt | apply Fin.nx
    exact .cons (.cellA inferInstance rfl rfl rfl (Nat.le_of_ble_eq_true rfl) (.of (.of rfl))) (.cons (.tmp rfl (.of (.of rfl))) .nil)
  · intro h
    rw [show shSized s ⟨ch, pool1 size s.h, pool1 size s.w⟩ = (shZ, false) from if_neg (by rw [h]; simp)]
    refine z_go ?_
    with_reducible first | apply Fin.rt | apply Fin.nx
    exact .cons (.cellA inferInstance rfl rfl rfl (Nat.le_of_ble_eq_true rfl) (.of (.of rfl))) (.cons (.tmp rfl (.of (.of rfl))) .nil)
theorem fnShConv (s : Sh) (out size step : Int) (hs : s.h ≤ 9223372036854775807 ∧ s.w ≤ 9223372036854775807) : Fn1 Try.prog 94 [shV s, .i out, .i size, .i step] (.tup [shV (shConv s out size step).1, .b (shConv s out size step).2]) := by
  refine Fn1.of (rs := [shV _, .b _]) (res := [.cell 8 23, .tmp 9]) Try.call94 Try.func94 rfl Try.ntmps94 rfl (by simp) fun c hc => ?_
  have k1 := (fnSizedC s out size step hs).at [1, 2]; refine z_go ?_
  with_reducible first | apply Fin.rt | apply Fin.nx
  exact .cons (.cellA inferInstance rfl rfl rfl (Nat.le_of_ble_eq_true rfl) (.of (.of rfl))) (.cons (.tmp rfl (.of (.of rfl))) .nil)
theorem fnShPool (s : Sh) (size : Int) : Fn1 Try.prog 95 [shV s, .i size] (.tup [shV (shPool s size).1, .b (shPool s size).2]) := by
  refine Fn1.of (rs := [shV _, .b _]) (res := [.cell 4 23, .tmp 5]) Try.call95 Try.func95 rfl Try.ntmps95 rfl (by simp) fun c hc => ?_
  have k1 := (fnSizedP s s.c size).at [1]; refine z_go ?_
  with_reducible first | apply Fin.rt | apply Fin.nx
  exact .cons (.cellA inferInstance rfl rfl rfl (Nat.le_of_ble_eq_true rfl) (.of (.of rfl))) (.cons (.tmp rfl (.of (.of rfl))) .nil)
end Go.Proofs.Ytblabchnpkofgaa
set_option linter.unusedSimpArgs false
set_option linter.unusedVariables false
namespace Go.Proofs.Ytblabchnpkofgaa
open Go.RowKit Go.Sy
structure Ly where
  kind : Int
  out : Int
  size : Int
  step : Int
  deriving DecidableEq
structure Nt where
  inp : Sh
  ls : List Ly
abbrev encLy (l : Ly) : List V := [.i l.kind, .i l.out, .i l.size, .i l.step]
abbrev lyV (l : Ly) : V := .agg (encLy l)
abbrev ntV (n : Nt) : V := .agg [.i n.inp.c, .i n.inp.h, .i n.inp.w, V.list encLy n.ls]
abbrev lyBox (l : Ly) : Box := ⟨[.p (.i l.kind), .p (.i l.out), .p (.i l.size), .p (.i l.step)], 40, 0⟩
abbrev ntBox (n : Nt) : Box := ⟨[.p (.i n.inp.c), .p (.i n.inp.h), .p (.i n.inp.w), .p (V.list encLy n.ls)], 26, 0⟩
abbrev inN (v most : Int) : Bool := !(decide (v < 0) || decide (v > most))
/-- has a layer a form? -/
def lyForm (l : Ly) : Bool :=
  if l.kind = 1 then inN l.out 999999 && inN l.size 999999 && inN l.step 999999
  else if l.kind = 2 then l.out == 0 && l.size == 0 && l.step == 0
  else if l.kind = 3 then l.out == 0 && inN l.size 999999 && l.step == 0
  else if l.kind = 4 then inN l.out 999999 && l.size == 0 && l.step == 0
  else false
def ntForm (n : Nt) : Bool := !decide ((n.ls.length : Int) > 8) && inN n.inp.c 999999 && inN n.inp.h 999999 && inN n.inp.w 999999 && n.ls.all lyForm
/-! ### the document's answer -/
theorem fnRWithin (v : Int) : Fn1 Try.prog 64 [.i v] (.b (inN v 999999)) := by
  refine Fn1.of (rs := [.b (inN v 999999)]) (res := [.tmp 2]) Try.call64 Try.func64 rfl Try.ntmps64 rfl (by simp) fun c hc => ?_
  refine z_go ?_
  with_reducible first | apply Fin.rt | apply Fin.nx
  refine .cons (.tmp rfl (.of (.of ?_))) .nil
  simp only [D.toV, Option.some.injEq, V.x.injEq, Value.bool.injEq]
  rw [Bool.eq_iff_iff]
  simp [inN]
theorem fnRLayer (l : Ly) : Fn1 Try.prog 65 [lyV l] (.b (lyForm l)) := by
  refine Fn1.of (rs := [.b (lyForm l)]) (res := [.tmp 2]) Try.call65 Try.func65 rfl Try.ntmps65 rfl (by simp) fun c hc => ?_
  have r1 := fnRWithin l.out
  have r2 := fnRWithin l.size
  have r3 := fnRWithin l.step
  refine z_go ?_
  apply Sym.cond
  · rfl
  · intro h
    have h : l.kind = 1 := by simpa using h
    have k1 := r1; have k2 := r2; have k3 := r3; refine z_go ?_
    with_reducible first | apply Fin.rt | apply Fin.nx
    refine .cons (.tmp rfl (.of (.of ?_))) .nil
    simp [D.toV, lyForm, h]
  · intro h1
    have h1 : ¬ l.kind = 1 := by simpa using h1
    refine z_go ?_
    apply Sym.cond
    · rfl
    · intro h
      have h : l.kind = 2 := by simpa using h
      refine z_go ?_
      with_reducible first | apply Fin.rt | apply Fin.nx
      refine .cons (.tmp rfl (.of (.of ?_))) .nil
      simp [D.toV, lyForm, h]
    · intro h2
      have h2 : ¬ l.kind = 2 := by simpa using h2
      refine z_go ?_
      apply Sym.cond
      · rfl
      · intro h
        have h : l.kind = 3 := by simpa using h
        have k1 := r2; refine z_go ?_
        with_reducible first | apply Fin.rt | apply Fin.nx
        refine .cons (.tmp rfl (.of (.of ?_))) .nil
        simp [D.toV, lyForm, h]
      · intro h3
        have h3 : ¬ l.kind = 3 := by simpa using h3
        refine z_go ?_
        apply Sym.cond
        · rfl
        · intro h
          have h : l.kind = 4 := by simpa using h
          have k1 := r1; refine z_go ?_
          with_reducible first | apply Fin.rt | apply Fin.nx
          refine .cons (.tmp rfl (.of (.of ?_))) .nil
          simp [D.toV, lyForm, h]
        · intro h4
          have h4 : ¬ l.kind = 4 := by simpa using h4
          refine z_go ?_
          with_reducible first | apply Fin.rt | apply Fin.nx
          refine .cons (.tmp rfl (.of (.of ?_))) .nil
          simp [D.toV, lyForm, h1, h2, h3, h4]
theorem fnRForm (n : Nt) : Fn1 Try.prog 39 [ntV n] (.b (ntForm n)) := by
  refine Fn1.of (rs := [.b (ntForm n)]) (res := [.tmp 2]) Try.call39 Try.func39 rfl Try.ntmps39 rfl (by simp) fun c hc => ?_
  have k1 := fnRWithin n.inp.c; have k2 := fnRWithin n.inp.h; have k3 := fnRWithin n.inp.w; refine z_go ?_
  apply Sym.cond
  · rfl
  · intro h
    rw [show ntForm n = false by
      unfold ntForm
      cases e1 : inN n.inp.c 999999 <;> cases e2 : inN n.inp.h 999999 <;> cases e3 : inN n.inp.w 999999 <;> simp_all]
    refine z_go ?_
    with_reducible first | apply Fin.rt | apply Fin.nx
    exact (.cons (.tmp rfl (.of (.of rfl))) .nil)
  · intro h
    have hf : ntForm n = n.ls.all lyForm := by
      unfold ntForm
      cases e1 : inN n.inp.c 999999 <;> cases e2 : inN n.inp.h 999999 <;> cases e3 : inN n.inp.w 999999 <;> simp_all
    have hl : n.ls.length ≤ 8 := by
      simp only [Bool.or_eq_false_iff, decide_eq_false_iff_not] at h
      omega
    clear h
    refine z_go ?_
    refine Sym.loop (fun k s => ∃ i : Nat, i ≤ n.ls.length ∧ (n.ls.take i).all lyForm = true ∧ k = n.ls.length - i ∧ s = ⟨[(3, true, .p (.i i)), (1, true, .ptr 0 0)], [some (ntBox n)]⟩) n.ls.length ⟨_, ⟨0, Nat.zero_le _, rfl, by simp, rfl⟩, z_wkt⟩ ?_
    rintro k s ⟨i, hi, hall, rfl, rfl⟩
    refine z_go ?_
    apply Sym.cond
    · rfl
    · intro hlt
      simp only [decide_eq_true_eq] at hlt
      obtain ⟨el, hel⟩ : ∃ el, n.ls[i]? = some el := ⟨_, List.getElem?_eq_getElem (by omega)⟩
      have k1 := fnRLayer el; refine z_go ?_
      apply Sym.cond
      · rfl
      · intro hb
        rw [show ntForm n = false by
          rw [hf, List.all_eq_false]
          exact ⟨el, List.mem_of_getElem? hel, by simpa using hb⟩]
        refine z_go ?_
        with_reducible first | apply Fin.rt | apply Fin.nx
        exact (.cons (.tmp rfl (.of (.of rfl))) .nil)
      · intro hb
        refine z_go ?_
        refine ⟨_, ?_, _, ⟨i + 1, by omega, ?_, rfl, rfl⟩, z_wkt⟩
        · omega
        · rw [List.take_add_one, hel, List.all_append, hall]
          simpa using hb
    · intro hge
      simp only [decide_eq_false_iff_not] at hge
      obtain rfl : i = n.ls.length := by omega
      rw [List.take_length] at hall
      rw [hf, hall]
      refine z_go ?_
      with_reducible first | apply Fin.rt | apply Fin.nx
      exact (.cons (.tmp rfl (.of (.of rfl))) .nil)
/-! ### package descr -/
theorem fnDWithin0 (most : Int) : Fn1 Try.prog 92 [.i most, V.list (fun _ : Unit => [.i 0]) []] (.b true) := by
  refine Fn1.of (rs := [.b true]) (res := [.tmp 4]) Try.call92 Try.func92 rfl Try.ntmps92 rfl (by simp) fun c hc => ?_
  refine z_go ?_
  refine Sym.loop (fun k s => s = ⟨[(9, true, .p (.i 0)), (8, true, .p (.i 0))], []⟩) 0 ⟨_, rfl, z_wkt⟩ ?_
  rintro k s rfl
  refine z_go ?_
  apply Sym.condF
  · rfl
  refine z_go ?_
  with_reducible first | apply Fin.rt | apply Fin.nx
  exact (.cons (.tmp rfl (.of (.of rfl))) .nil)
theorem lit_drop (ps : List (Nat × Int)) (i : Nat) {o : Nat} {v : Int} (h : ps[i]? = some (o, v)) : (ps.map fun p => D.ptr 0 p.1).drop (((i : Int)).toNat * 1) = .ptr 0 o :: (ps.drop (i + 1)).map fun p => .ptr 0 p.1 := by
  have hi := (List.getElem?_eq_some_iff.1 h)
  rw [show ((i : Int)).toNat * 1 = i by simp, ← List.map_drop, List.drop_eq_getElem_cons hi.1, List.map_cons, hi.2]
theorem fnDWithin (most : Int) (vs : List V) (e : TypeId) (ps : List (Nat × Int)) (hps : ∀ p ∈ ps, vs[p.1]? = some (.i p.2)) (hlen : ps.length ≤ 100) :
    FnR Try.prog 92 [.p (.i most), .lit ps.length (ps.map fun p => .ptr 0 p.1)] [some ⟨vs.map D.p, e, 0⟩] (.b (ps.all fun p => inN p.2 most)) := by
  have hup : ∀ ps : List (Nat × Int), D.upToL 1 (ps.map fun p => .ptr 0 p.1) = true := by
    intro ps
    induction ps with
    | nil => rfl
    | cons p ps ih => simp [D.upToL, D.upTo, ih]
  refine FnR.of (rs := [.b _]) (res := [.tmp 4]) Try.call92 Try.func92 rfl Try.ntmps92 rfl (by simp) (by simp [D.upToL, D.upTo, hup]) (by simp [Hp.upTo, D.upToL_p]) fun c hro hc hdead => ?_
  refine z_go ?_
  refine Sym.loop (fun k s => ∃ i : Nat, i ≤ ps.length ∧ (ps.take i).all (fun p => inN p.2 most) = true ∧ k = ps.length - i ∧ s = ⟨[(9, true, .p (.i i)), (8, true, .p (.i ps.length)), (7, true, .lit ps.length (ps.map fun p => .ptr 0 p.1)), (0, true, .p (.i most))], [some ⟨vs.map D.p, e, 0⟩]⟩) ps.length ⟨_, ⟨0, Nat.zero_le _, rfl, by simp, rfl⟩, Weak.le ⟨by (repeat' (first | exact trivial | rfl | constructor)), by (repeat' (first | exact trivial | exact Or.inr rfl | constructor)), by simp [TM.upTo, D.upTo, hup], by simp [Hp.upTo, D.upToL_p]⟩ (by rw [hc]; simp)⟩ ?_
  rintro k s ⟨i, hi, hall, rfl, rfl⟩
  refine z_go ?_
  apply Sym.cond
  · rfl
  · intro hlt
    simp only [decide_eq_true_eq] at hlt
    obtain ⟨⟨o, v⟩, hel⟩ : ∃ el, ps[i]? = some el := ⟨_, List.getElem?_eq_getElem (by omega)⟩
    have hcell := lit_drop ps i hel
    have hv : (vs.map D.p)[o]? = some (.p (.i v)) := by
      have := hps _ (List.mem_of_getElem? hel)
      simp [this]
    refine z_go ?_
    apply Sym.cond
    · rfl
    · intro hb
      rw [show (ps.all fun p => inN p.2 most) = false by
        rw [List.all_eq_false]
        exact ⟨(o, v), List.mem_of_getElem? hel, by simp [inN]; simp at hb; omega⟩]
      refine z_go ?_
      with_reducible first | apply Fin.rt | apply Fin.nx
      exact (.cons (.tmp rfl (.of (.of rfl))) .nil)
    · intro hb
      refine z_go ?_
      refine ⟨_, ?_, _, ⟨i + 1, by omega, ?_, rfl, rfl⟩, Weak.le ⟨by (repeat' (first | exact trivial | rfl | constructor)), by (repeat' (first | exact trivial | exact Or.inr rfl | constructor)), by simp [TM.upTo, D.upTo, hup], by simp [Hp.upTo, D.upToL_p]⟩ (by rw [hc]; simp)⟩
      · omega
      · rw [List.take_add_one, hel, List.all_append, hall]
        simpa using hb
  · intro hge
    simp only [decide_eq_false_iff_not] at hge
    obtain rfl : i = ps.length := by omega
    rw [List.take_length] at hall
    rw [hall]
    refine z_go ?_
    with_reducible first | apply Fin.rt | apply Fin.nx
    exact (.cons (.tmp rfl (.of (.of rfl))) .nil)
end Go.Proofs.Ytblabchnpkofgaa
set_option linter.unusedSimpArgs false
set_option linter.unusedVariables false
namespace Go.Proofs.Ytblabchnpkofgaa
open Go.RowKit Go.Sy
abbrev nilX : D := .p (.x (.slice none 0 0))
abbrev nil0 : D := .p (V.list (fun _ : Unit => [.i 0]) [])
abbrev strD (a : Array UInt8) : D := .p (.x (.string ⟨a⟩))
def nmWord (k : Int) : D := if k = 1 then strD #[99, 111, 110, 118] else if k = 2 then strD #[115, 113, 117, 97, 114, 101] else if k = 3 then strD #[112, 111, 111, 108] else if k = 4 then strD #[100, 101, 110, 115, 101] else strD #[]
def nmHas (z : D) (k : Int) : D := if k = 1 then .lit 3 [.ptr 0 1, .ptr 0 2, .ptr 0 3] else if k = 2 then z else if k = 3 then .lit 1 [.ptr 0 2] else if k = 4 then .lit 1 [.ptr 0 1] else z
def nmNot (z : D) (k : Int) : D := if k = 1 then z else if k = 2 then .lit 3 [.ptr 0 1, .ptr 0 2, .ptr 0 3] else if k = 3 then .lit 2 [.ptr 0 1, .ptr 0 3] else if k = 4 then .lit 2 [.ptr 0 2, .ptr 0 3] else z
theorem nil_le : DLe nilX nil0 := .v (.mk rfl z_vle)
theorem has_le (k : Int) : DLe (nmHas nilX k) (nmHas nil0 k) := by
  unfold nmHas
  repeat' split
  all_goals first | exact .refl _ | exact nil_le
theorem not_le (k : Int) : DLe (nmNot nilX k) (nmNot nil0 k) := by
  unfold nmNot
  repeat' split
  all_goals first | exact .refl _ | exact nil_le
theorem fnNumbers (x : Ly) : FnB Try.prog 93 [.agg [.ptr 0 0]] [some (lyBox x)] (.tup [nmWord x.kind, nmHas nil0 x.kind, nmNot nil0 x.kind]) [some (lyBox x), none] := by
  refine FnB.of (rs := [_, _, _]) (res := [.tmp 2, .tmp 3, .tmp 4]) Try.call93 Try.func93 rfl Try.ntmps93 rfl (by simp) rfl rfl fun c hro hc hdead => ?_
  refine z_go ?_
  apply Sym.cond
  · rfl
  · intro h
    have h : x.kind = 1 := by simpa using h
    refine z_go ?_
    refine FinB.rtW [(2, true, nmWord x.kind), (3, true, nmHas nilX x.kind), (4, true, nmNot nilX x.kind)] ?_ (.cons (.tmp rfl (.refl _)) (.cons (.tmp rfl (has_le _)) (.cons (.tmp rfl (not_le _)) .nil)))
    simp only [nmWord, nmHas, nmNot, h, if_true, if_false, reduceCtorEq, Int.reduceEq]
    exact z_wkt
  · intro h1
    have h1 : ¬ x.kind = 1 := by simpa using h1
    refine z_go ?_
    apply Sym.cond
    · rfl
    · intro h
      have h : x.kind = 2 := by simpa using h
      refine z_go ?_
      refine FinB.rtW [(2, true, nmWord x.kind), (3, true, nmHas nilX x.kind), (4, true, nmNot nilX x.kind)] ?_ (.cons (.tmp rfl (.refl _)) (.cons (.tmp rfl (has_le _)) (.cons (.tmp rfl (not_le _)) .nil)))
      simp only [nmWord, nmHas, nmNot, h, if_true, if_false, reduceCtorEq, Int.reduceEq]
      exact z_wkt
    · intro h2
      have h2 : ¬ x.kind = 2 := by simpa using h2
      refine z_go ?_
      apply Sym.cond
      · rfl
      · intro h
        have h : x.kind = 3 := by simpa using h
        refine z_go ?_
        refine FinB.rtW [(2, true, nmWord x.kind), (3, true, nmHas nilX x.kind), (4, true, nmNot nilX x.kind)] ?_ (.cons (.tmp rfl (.refl _)) (.cons (.tmp rfl (has_le _)) (.cons (.tmp rfl (not_le _)) .nil)))
        simp only [nmWord, nmHas, nmNot, h, if_true, if_false, reduceCtorEq, Int.reduceEq]
        exact z_wkt
      · intro h3
        have h3 : ¬ x.kind = 3 := by simpa using h3
        refine z_go ?_
        apply Sym.cond
        · rfl
        · intro h
          have h : x.kind = 4 := by simpa using h
          refine z_go ?_
          refine FinB.rtW [(2, true, nmWord x.kind), (3, true, nmHas nilX x.kind), (4, true, nmNot nilX x.kind)] ?_ (.cons (.tmp rfl (.refl _)) (.cons (.tmp rfl (has_le _)) (.cons (.tmp rfl (not_le _)) .nil)))
          simp only [nmWord, nmHas, nmNot, h, if_true, if_false, reduceCtorEq, Int.reduceEq]
          exact z_wkt
        · intro h4
          have h4 : ¬ x.kind = 4 := by simpa using h4
          refine z_go ?_
          refine FinB.rtW [(2, true, nmWord x.kind), (3, true, nmHas nilX x.kind), (4, true, nmNot nilX x.kind)] ?_ (.cons (.tmp rfl (.refl _)) (.cons (.tmp rfl (has_le _)) (.cons (.tmp rfl (not_le _)) .nil)))
          simp only [nmWord, nmHas, nmNot, h1, h2, h3, h4, if_true, if_false, reduceCtorEq, Int.reduceEq]
          exact z_wkt
theorem ntForm_h {n : Nt} {b : Bool} (h : (decide ((n.ls.length : Int) > 8) || !([(0, n.inp.c), (1, n.inp.h), (2, n.inp.w)].all fun p : Nat × Int => inN p.2 999999)) = b) : if b = true then ntForm n = false else ntForm n = n.ls.all lyForm ∧ n.ls.length ≤ 8 := by
  subst h
  simp only [List.all_cons, List.all_nil, Bool.and_true]
  unfold ntForm
  cases inN n.inp.c 999999 <;> cases inN n.inp.h 999999 <;> cases inN n.inp.w 999999 <;> by_cases h : (n.ls.length : Int) > 8 <;> simp [h] <;> omega
theorem fnNum1 {x : Ly} (h : x.kind = 1) : FnB Try.prog 93 [.agg [.ptr 0 0]] [some (lyBox x)] (.tup [strD #[99, 111, 110, 118], .lit 3 [.ptr 0 1, .ptr 0 2, .ptr 0 3], nil0]) [some (lyBox x), none] := by
  have := fnNumbers x
  simpa only [nmWord, nmHas, nmNot, h, if_true, if_false, reduceCtorEq, Int.reduceEq] using this
theorem fnNum2 {x : Ly} (h : x.kind = 2) : FnB Try.prog 93 [.agg [.ptr 0 0]] [some (lyBox x)] (.tup [strD #[115, 113, 117, 97, 114, 101], nil0, .lit 3 [.ptr 0 1, .ptr 0 2, .ptr 0 3]]) [some (lyBox x), none] := by
  have := fnNumbers x
  simpa only [nmWord, nmHas, nmNot, h, if_true, if_false, reduceCtorEq, Int.reduceEq] using this
theorem fnNum3 {x : Ly} (h : x.kind = 3) : FnB Try.prog 93 [.agg [.ptr 0 0]] [some (lyBox x)] (.tup [strD #[112, 111, 111, 108], .lit 1 [.ptr 0 2], .lit 2 [.ptr 0 1, .ptr 0 3]]) [some (lyBox x), none] := by
  have := fnNumbers x
  simpa only [nmWord, nmHas, nmNot, h, if_true, if_false, reduceCtorEq, Int.reduceEq] using this
theorem fnNum4 {x : Ly} (h : x.kind = 4) : FnB Try.prog 93 [.agg [.ptr 0 0]] [some (lyBox x)] (.tup [strD #[100, 101, 110, 115, 101], .lit 1 [.ptr 0 1], .lit 2 [.ptr 0 2, .ptr 0 3]]) [some (lyBox x), none] := by
  have := fnNumbers x
  simpa only [nmWord, nmHas, nmNot, h, if_true, if_false, reduceCtorEq, Int.reduceEq] using this
theorem fnNum0 {x : Ly} (h : x.kind ≠ 1 ∧ x.kind ≠ 2 ∧ x.kind ≠ 3 ∧ x.kind ≠ 4) : FnB Try.prog 93 [.agg [.ptr 0 0]] [some (lyBox x)] (.tup [strD #[], nil0, nil0]) [some (lyBox x), none] := by
  have := fnNumbers x
  simpa only [nmWord, nmHas, nmNot, h, if_true, if_false, reduceCtorEq, Int.reduceEq] using this
abbrev dW (x : Ly) (most : Int) (ps : List (Nat × Int)) (h : ∀ p ∈ ps, ([V.i x.kind, .i x.out, .i x.size, .i x.step])[p.1]? = some (.i p.2)) (hl : ps.length ≤ 100) := fnDWithin most [V.i x.kind, .i x.out, .i x.size, .i x.step] 40 ps h hl
theorem inN0 (v : Int) : inN v 0 = (v == 0) := by
  rw [Bool.eq_iff_iff]
  simp [inN]
  omega
theorem lyF1 {x : Ly} {b p : Bool} (h : x.kind = 1) (hb : ((p || !([(1, x.out), (2, x.size), (3, x.step)].all fun p : Nat × Int => inN p.2 999999)) || !true) = b) (hp : p = false) : lyForm x = !b := by
  subst hb hp
  simp only [lyForm, h, List.all_cons, List.all_nil, if_true, Bool.and_true, Bool.false_or, Bool.not_true, Bool.or_false, Bool.not_not, Bool.and_assoc]
theorem lyF2 {x : Ly} {b p : Bool} (h : x.kind = 2) (hb : ((p || !true) || !([(1, x.out), (2, x.size), (3, x.step)].all fun p : Nat × Int => inN p.2 0)) = b) (hp : p = false) : lyForm x = !b := by
  subst hb hp
  simp only [lyForm, h, inN0, List.all_cons, List.all_nil, if_true, if_false, Int.reduceEq, Bool.and_true, Bool.false_or, Bool.not_true, Bool.or_false, Bool.not_not, Bool.and_assoc]
theorem lyF3 {x : Ly} {b p : Bool} (h : x.kind = 3) (hb : ((p || !([(2, x.size)].all fun p : Nat × Int => inN p.2 999999)) || !([(1, x.out), (3, x.step)].all fun p : Nat × Int => inN p.2 0)) = b) (hp : p = false) : lyForm x = !b := by
  subst hb hp
  simp only [List.all_cons, List.all_nil, inN0, lyForm, h, if_true, if_false, Int.reduceEq]
  generalize inN x.size 999999 = a
  cases x.out == 0 <;> cases a <;> cases x.step == 0 <;> rfl
theorem lyF4 {x : Ly} {b p : Bool} (h : x.kind = 4) (hb : ((p || !([(1, x.out)].all fun p : Nat × Int => inN p.2 999999)) || !([(2, x.size), (3, x.step)].all fun p : Nat × Int => inN p.2 0)) = b) (hp : p = false) : lyForm x = !b := by
  subst hb hp
  simp only [List.all_cons, List.all_nil, inN0, lyForm, h, if_true, if_false, Int.reduceEq]
  generalize inN x.out 999999 = a
  cases x.size == 0 <;> cases a <;> cases x.step == 0 <;> rfl
set_option maxHeartbeats 2000000 in
theorem fnDForm (n : Nt) : Fn1 Try.prog 82 [ntV n] (.b (ntForm n)) := by
  refine Fn1.of (rs := [.b (ntForm n)]) (res := [.tmp 2]) Try.call82 Try.func82 rfl Try.ntmps82 rfl (by simp) fun c hc => ?_
  have g1 := fun (h : decide ((n.ls.length : Int) > 8) = false) => (fnDWithin 999999 [.i n.inp.c, .i n.inp.h, .i n.inp.w, V.list encLy n.ls] 26 [(0, n.inp.c), (1, n.inp.h), (2, n.inp.w)] (by simp) (by simp)).at [0]; refine z_go ?_
  apply Sym.cond
  · rfl
  · intro h
    rw [show ntForm n = false from ntForm_h h]
    refine z_go ?_
    with_reducible first | apply Fin.rt | apply Fin.nx
    exact (.cons (.tmp rfl (.of (.of rfl))) .nil)
  · intro h
    obtain ⟨hf, hl⟩ : ntForm n = n.ls.all lyForm ∧ n.ls.length ≤ 8 := ntForm_h h
    clear h
    refine z_go ?_
    refine Sym.loop (fun k s => ∃ i : Nat, i ≤ n.ls.length ∧ (n.ls.take i).all lyForm = true ∧ k = n.ls.length - i ∧ s = ⟨[(27, true, .p (.i i)), (26, true, .p (.i n.ls.length)), (25, true, .p (V.list encLy n.ls)), (1, true, .ptr 0 0)], [some (ntBox n)]⟩) n.ls.length ⟨_, ⟨0, Nat.zero_le _, rfl, by simp, rfl⟩, z_wkt⟩ ?_
    rintro k s ⟨i, hi, hall, rfl, rfl⟩
    refine z_go ?_
    apply Sym.cond
    · rfl
    · intro hlt
      simp only [decide_eq_true_eq] at hlt
      obtain ⟨el, hel⟩ : ∃ el, n.ls[i]? = some el := ⟨_, List.getElem?_eq_getElem (by omega)⟩
      by_cases h1 : el.kind = 1
      · have k1 := ((fnNum1 h1)).at [1]; have k2 := ((dW el 999999 [(1, el.out), (2, el.size), (3, el.step)] (by simp) (by simp))).at [1]; have k3 := fnDWithin0 0; refine z_go ?_
        apply Sym.cond
        · rfl
        · intro hb
          rw [show ntForm n = false by
            rw [hf, List.all_eq_false]
            exact ⟨el, List.mem_of_getElem? hel, by simpa using lyF1 h1 hb (by kernel_rfl)⟩]
          refine z_go ?_
          with_reducible first | apply Fin.rt | apply Fin.nx
          exact (.cons (.tmp rfl (.of (.of rfl))) .nil)
        · intro hb
          refine z_go ?_
          refine ⟨_, ?_, _, ⟨i + 1, by omega, ?_, rfl, rfl⟩, z_wkt⟩
          · omega
          · rw [List.take_add_one, hel, List.all_append, hall]
            simpa using lyF1 h1 hb (by kernel_rfl)
      by_cases h2 : el.kind = 2
      · have k1 := ((fnNum2 h2)).at [1]; have k2 := ((dW el 0 [(1, el.out), (2, el.size), (3, el.step)] (by simp) (by simp))).at [1]; have k3 := fnDWithin0 999999; refine z_go ?_
        apply Sym.cond
        · rfl
        · intro hb
          rw [show ntForm n = false by
            rw [hf, List.all_eq_false]
            exact ⟨el, List.mem_of_getElem? hel, by simpa using lyF2 h2 hb (by kernel_rfl)⟩]
          refine z_go ?_
          with_reducible first | apply Fin.rt | apply Fin.nx
          exact (.cons (.tmp rfl (.of (.of rfl))) .nil)
        · intro hb
          refine z_go ?_
          refine ⟨_, ?_, _, ⟨i + 1, by omega, ?_, rfl, rfl⟩, z_wkt⟩
          · omega
          · rw [List.take_add_one, hel, List.all_append, hall]
            simpa using lyF2 h2 hb (by kernel_rfl)
      by_cases h3 : el.kind = 3
      · have k1 := ((fnNum3 h3)).at [1]; have k2 := ((dW el 999999 [(2, el.size)] (by simp) (by simp))).at [1]; have k3 := ((dW el 0 [(1, el.out), (3, el.step)] (by simp) (by simp))).at [1]; refine z_go ?_
        apply Sym.cond
        · rfl
        · intro hb
          rw [show ntForm n = false by
            rw [hf, List.all_eq_false]
            exact ⟨el, List.mem_of_getElem? hel, by simpa using lyF3 h3 hb (by kernel_rfl)⟩]
          refine z_go ?_
          with_reducible first | apply Fin.rt | apply Fin.nx
          exact (.cons (.tmp rfl (.of (.of rfl))) .nil)
        · intro hb
          refine z_go ?_
          refine ⟨_, ?_, _, ⟨i + 1, by omega, ?_, rfl, rfl⟩, z_wkt⟩
          · omega
          · rw [List.take_add_one, hel, List.all_append, hall]
            simpa using lyF3 h3 hb (by kernel_rfl)
      by_cases h4 : el.kind = 4
      · have k1 := ((fnNum4 h4)).at [1]; have k2 := ((dW el 999999 [(1, el.out)] (by simp) (by simp))).at [1]; have k3 := ((dW el 0 [(2, el.size), (3, el.step)] (by simp) (by simp))).at [1]; refine z_go ?_
        apply Sym.cond
        · rfl
        · intro hb
          rw [show ntForm n = false by
            rw [hf, List.all_eq_false]
            exact ⟨el, List.mem_of_getElem? hel, by simpa using lyF4 h4 hb (by kernel_rfl)⟩]
          refine z_go ?_
          with_reducible first | apply Fin.rt | apply Fin.nx
          exact (.cons (.tmp rfl (.of (.of rfl))) .nil)
        · intro hb
          refine z_go ?_
          refine ⟨_, ?_, _, ⟨i + 1, by omega, ?_, rfl, rfl⟩, z_wkt⟩
          · omega
          · rw [List.take_add_one, hel, List.all_append, hall]
            simpa using lyF4 h4 hb (by kernel_rfl)
      · have k1 := ((fnNum0 ⟨h1, h2, h3, h4⟩)).at [1]; have k2 := fnDWithin0 0; have k3 := fnDWithin0 999999; refine z_go ?_
        apply Sym.condT
        · kernel_rfl
        rw [show ntForm n = false by
          rw [hf, List.all_eq_false]
          exact ⟨el, List.mem_of_getElem? hel, by simp [lyForm, h1, h2, h3, h4]⟩]
        refine z_go ?_
        with_reducible first | apply Fin.rt | apply Fin.nx
        exact (.cons (.tmp rfl (.of (.of rfl))) .nil)
    · intro hge
      simp only [decide_eq_false_iff_not] at hge
      obtain rfl : i = n.ls.length := by omega
      rw [List.take_length] at hall
      rw [hf, hall]
      refine z_go ?_
      with_reducible first | apply Fin.rt | apply Fin.nx
      exact (.cons (.tmp rfl (.of (.of rfl))) .nil)
end Go.Proofs.Ytblabchnpkofgaa
set_option linter.unusedSimpArgs false
set_option linter.unusedVariables false
namespace Go.Proofs.Ytblabchnpkofgaa
open Go.RowKit Go.Sy
/-- what package check panics with -/
abbrev wrongV (e : Int) : Value := .iface 112 (.agg #[.int .i64 e])
theorem fnMustT (e : Int) : Fn1 Try.prog 81 [.b true, .i e] (.tup []) := by
  refine Fn1.of (rs := []) (res := []) Try.call81 Try.func81 rfl Try.ntmps81 rfl (by simp) fun c hc => ?_
  refine z_go ?_
  apply Sym.condF
  · rfl
  refine z_go ?_
  with_reducible first | apply Fin.rt | apply Fin.nx
  exact .nil
theorem fnMustF (e : Int) : FnP Try.prog 81 [.b false, .i e] (wrongV e) := by
  refine FnP.of Try.call81 Try.func81 rfl Try.ntmps81 (by simp) fun c hc => ?_
  refine z_go ?_
  apply Sym.condT
  · rfl
  apply Sym.regionL
  refine SymL.opr (g := true) z_gd z_mop rfl ?_
  refine SymL.opr (g := true) z_gd z_mop rfl ?_
  refine SymL.opr (g := true) (d := .p (.ifc 112 (.agg [.i e]))) z_gd (MOp.makeIface rfl z_ev) rfl ?_
  refine SymL.panic (v := .ifc 112 (.agg [.i e])) (ti := 112) (y := .agg #[.int .i64 e]) z_ev rfl ?_
  show FinP _ _ _
  unfold FinP
  kernel_rfl
abbrev bNil : D := .p (.x (.slice none 0 0))
theorem cdRet (v v' : V) (t t' : TypeId) : CD Try.prog 80 [.ptr 0 0, .ptr 1 0] [some ⟨[.p v], t, 0⟩, some ⟨[.p v'], t', 0⟩] [some ⟨[.p v], t, 0⟩, some ⟨[.p v'], t', 0⟩, none] .returning .returning := by
  refine CD.of Try.func80 rfl Try.ntmps80 rfl (by simp) rfl rfl rfl rfl .ret fun c hro hdead hc => ?_
  refine SymL.opr (d := .p (.tup [.agg [.i 0], .b false])) (g := true) z_gd (MOp.typeAssertN rfl rfl rfl z_ev) rfl ?_
  refine z_go ?_
  apply Sym.condF
  · rfl
  refine z_go ?_
  exact FinB.nxW [] z_wkt .nil
theorem cdPan (e : Int) (d d' : D) (t t' : TypeId) (h : Hp.upTo 2 [some ⟨[d], t, 0⟩, some ⟨[d'], t', 0⟩] = true) : CD Try.prog 80 [.ptr 0 0, .ptr 1 0] [some ⟨[d], t, 0⟩, some ⟨[d'], t', 0⟩] [some ⟨[bNil], t, 0⟩, some ⟨[.p (.i e)], t', 0⟩, none] (.panicking (pch (wrongV e))) (.panicking [⟨wrongV e, true, false⟩]) := by
  refine CD.of Try.func80 rfl Try.ntmps80 rfl (by simp) rfl rfl h rfl (.pan (v := .ifc 112 (.agg [.i e])) rfl) fun c hro hdead hc => ?_
  refine SymL.opr (d := .p (.tup [.agg [.i e], .b true])) (g := true) z_gd (MOp.typeAssertT rfl z_ev) rfl ?_
  refine z_go ?_
  apply Sym.condT
  · rfl
  (apply Sym.drawXL [2, 3] (by kernel_rfl) (by kernel_rfl) (by kernel_rfl))
  refine z_xgo ?_
  exact FinB.nxW [] z_wkt .nil
end Go.Proofs.Ytblabchnpkofgaa
set_option linter.unusedSimpArgs false
set_option linter.unusedVariables false
namespace Go.Proofs.Ytblabchnpkofgaa
open Go.RowKit Go.Sy
/-- what comes out of a layer, and does it fit? -/
def outOf (s : Sh) (l : Ly) : Sh × Bool :=
  if l.kind = 1 then shConv s l.out l.size l.step
  else if l.kind = 2 then (s, true)
  else if l.kind = 3 then shPool s l.size
  else if decide (l.out < 1) || decide (l.out > 8) then (shZ, false) else (⟨l.out, 1, 1⟩, true)
def wOf (s : Sh) (l : Ly) : Int := if l.kind = 1 then w64 (w64 (w64 (l.out * s.c) * l.size) * l.size) else if l.kind = 4 then w64 (l.out * shSize s) else 0
def pOf (s t : Sh) (l : Ly) : Int := if l.kind = 1 then w64 (w64 (wOf s l * t.h) * t.w) else if l.kind = 4 then wOf s l else if l.kind = 2 then shSize s else 0
/-- what is known of a layer -/
structure Lx where
  l : Ly
  inn : Sh
  out : Sh
  ws : Int
  ps : Int
abbrev lxOf (s : Sh) (l : Ly) : Lx := ⟨l, s, (outOf s l).1, wOf s l, pOf s (outOf s l).1 l⟩
abbrev encLx (x : Lx) : List V := [.i x.l.kind, .i x.l.out, .i x.l.size, .i x.l.step, .i x.inn.c, .i x.inn.h, .i x.inn.w, .i x.out.c, .i x.out.h, .i x.out.w, .i x.ws, .i x.ps]
abbrev lxV (x : Lx) : V := .agg (encLx x)
theorem fits1 {s : Sh} {l : Ly} (h : l.kind = 1) : outOf s l = shConv s l.out l.size l.step := by simp [outOf, h]
theorem fits2 {s : Sh} {l : Ly} (h : l.kind = 2) : outOf s l = (s, true) := by simp [outOf, h]
theorem fits3 {s : Sh} {l : Ly} (h : l.kind = 3) : outOf s l = shPool s l.size := by simp [outOf, h]
theorem fits4 {s : Sh} {l : Ly} (h : l.kind = 4) : (outOf s l).2 = (decide (l.out ≥ 1) && decide (l.out ≤ 8)) := by
  simp only [outOf, h, if_false, Int.reduceEq]
  split
  · rename_i h
    simp only [Bool.or_eq_true, decide_eq_true_eq] at h
    rw [Eq.comm, Bool.and_eq_false_iff, decide_eq_false_iff_not, decide_eq_false_iff_not]
    omega
  · rename_i h
    simp only [Bool.or_eq_true, decide_eq_true_eq] at h
    rw [Eq.comm, Bool.and_eq_true, decide_eq_true_eq, decide_eq_true_eq]
    omega
theorem fnMustV {b : Bool} (h : b = true) (e : Int) : Fn1 Try.prog 81 [.b b, .i e] (.tup []) := h ▸ fnMustT e
theorem fnMustP {b : Bool} (h : b = false) (e : Int) : FnP Try.prog 81 [.b b, .i e] (wrongV e) := h ▸ fnMustF e
theorem lxOf1 {s : Sh} {l : Ly} (h : l.kind = 1) : lxOf s l = ⟨l, s, (shConv s l.out l.size l.step).1, w64 (w64 (w64 (l.out * s.c) * l.size) * l.size), w64 (w64 (w64 (w64 (w64 (l.out * s.c) * l.size) * l.size) * (shConv s l.out l.size l.step).1.h) * (shConv s l.out l.size l.step).1.w)⟩ := by
  simp [lxOf, outOf, wOf, pOf, h]
theorem lxOf2 {s : Sh} {l : Ly} (h : l.kind = 2) : lxOf s l = ⟨l, s, s, 0, shSize s⟩ := by
  simp [lxOf, outOf, wOf, pOf, h]
theorem lxOf3 {s : Sh} {l : Ly} (h : l.kind = 3) : lxOf s l = ⟨l, s, (shPool s l.size).1, 0, 0⟩ := by
  simp [lxOf, outOf, wOf, pOf, h]
theorem lxOf4 {s : Sh} {l : Ly} (h : l.kind = 4) (hf : (outOf s l).2 = true) : lxOf s l = ⟨l, s, ⟨l.out, 1, 1⟩, w64 (l.out * shSize s), w64 (l.out * shSize s)⟩ := by
  have : (outOf s l).1 = ⟨l.out, 1, 1⟩ := by
    revert hf
    simp only [outOf, h, if_false, Int.reduceEq]
    split
    · intro h; cases h
    · intro _; rfl
  simp [lxOf, this, wOf, pOf, h]
theorem fnNextT {s : Sh} {l : Ly} (hk : 1 ≤ l.kind ∧ l.kind ≤ 4) (hs : shRight s = true) (hf : (outOf s l).2 = true) : Fn1 Try.prog 84 [shV s, lyV l] (lxV (lxOf s l)) := by
  have hs' : s.h ≤ 9223372036854775807 ∧ s.w ≤ 9223372036854775807 := by
    have := shRight_iff.1 hs
    omega
  refine Fn1.of (rs := [lxV (lxOf s l)]) (res := [.cell 4 85]) Try.call84 Try.func84 rfl Try.ntmps84 rfl (by simp) fun c hc => ?_
  refine z_go ?_
  apply Sym.cond
  · rfl
  · intro h
    have h : l.kind = 1 := by simpa using h
    rw [fits1 h] at hf
    have k1 := fnShConv s l.out l.size l.step hs'; have k2 := fnMustV hf 21; refine z_go ?_
    rw [lxOf1 h]
    with_reducible first | apply Fin.rt | apply Fin.nx
    exact .cons (.cellA inferInstance rfl rfl rfl (Nat.le_of_ble_eq_true rfl) (.of (.of rfl))) .nil
  · intro h1
    have h1 : ¬ l.kind = 1 := by simpa using h1
    refine z_go ?_
    apply Sym.cond
    · rfl
    · intro h
      have h : l.kind = 2 := by simpa using h
      rw [fits2 h] at hf
      have k1 := fnShSize s; have k2 := fnMustT 21; refine z_go ?_
      rw [lxOf2 h]
      with_reducible first | apply Fin.rt | apply Fin.nx
      exact .cons (.cellA inferInstance rfl rfl rfl (Nat.le_of_ble_eq_true rfl) (.of (.of rfl))) .nil
    · intro h2
      have h2 : ¬ l.kind = 2 := by simpa using h2
      refine z_go ?_
      apply Sym.cond
      · rfl
      · intro h
        have h : l.kind = 3 := by simpa using h
        rw [fits3 h] at hf
        have k1 := fnShPool s l.size; have k2 := fnMustV hf 21; refine z_go ?_
        rw [lxOf3 h]
        with_reducible first | apply Fin.rt | apply Fin.nx
        exact .cons (.cellA inferInstance rfl rfl rfl (Nat.le_of_ble_eq_true rfl) (.of (.of rfl))) .nil
      · intro h3
        have h3 : ¬ l.kind = 3 := by simpa using h3
        obtain h : l.kind = 4 := by omega
        rw [fits4 h] at hf
        apply Sym.seq
        (apply Sym.drawXL [12] (by kernel_rfl) (by kernel_rfl) (by kernel_rfl))
        refine z_xgo ?_
        refine z_go ?_
        (apply Sym.drawXL [6] (by kernel_rfl) (by kernel_rfl) (by kernel_rfl))
        have k1 := fnShSize s; refine z_xgo ?_
        have k1 := fnMustV hf 21; refine z_go ?_
        rw [lxOf4 h (fits4 h ▸ hf)]
        with_reducible first | apply Fin.rt | apply Fin.nx
        exact .cons (.cellA inferInstance rfl rfl rfl (Nat.le_of_ble_eq_true rfl) (.of (.of rfl))) .nil
theorem fnNextF {s : Sh} {l : Ly} (hk : 1 ≤ l.kind ∧ l.kind ≤ 4) (hs : shRight s = true) (hf : (outOf s l).2 = false) : FnP Try.prog 84 [shV s, lyV l] (wrongV 21) := by
  have hs' : s.h ≤ 9223372036854775807 ∧ s.w ≤ 9223372036854775807 := by
    have := shRight_iff.1 hs
    omega
  refine FnP.of Try.call84 Try.func84 rfl Try.ntmps84 (by simp) fun c hc => ?_
  refine z_go ?_
  apply Sym.cond
  · rfl
  · intro h
    have h : l.kind = 1 := by simpa using h
    rw [fits1 h] at hf
    have k1 := fnShConv s l.out l.size l.step hs'; have k2 := fnShSize s; refine z_go ?_
    refine SymL.callP (fnMustP hf 21) z_ev (by (repeat (first | exact EvL.nil | (apply EvL.cons; exact z_ev; exact .of rfl))); (first | done | fail)) ?_
    exact rfl
  · intro h1
    have h1 : ¬ l.kind = 1 := by simpa using h1
    refine z_go ?_
    apply Sym.cond
    · rfl
    · intro h
      have h : l.kind = 2 := by simpa using h
      rw [fits2 h] at hf
      cases hf
    · intro h2
      have h2 : ¬ l.kind = 2 := by simpa using h2
      refine z_go ?_
      apply Sym.cond
      · rfl
      · intro h
        have h : l.kind = 3 := by simpa using h
        rw [fits3 h] at hf
        have k1 := fnShPool s l.size; have k2 := fnShSize s; refine z_go ?_
        refine SymL.callP (fnMustP hf 21) z_ev (by (repeat (first | exact EvL.nil | (apply EvL.cons; exact z_ev; exact .of rfl))); (first | done | fail)) ?_
        exact rfl
      · intro h3
        have h3 : ¬ l.kind = 3 := by simpa using h3
        obtain h : l.kind = 4 := by omega
        rw [fits4 h] at hf
        apply Sym.seq
        (apply Sym.drawXL [12] (by kernel_rfl) (by kernel_rfl) (by kernel_rfl))
        refine z_xgo ?_
        refine z_go ?_
        (apply Sym.drawXL [6] (by kernel_rfl) (by kernel_rfl) (by kernel_rfl))
        have k1 := fnShSize s; refine z_xgo ?_
        have k1 := fnShSize s; refine z_go ?_
        refine SymL.callP (fnMustP hf 21) z_ev (by (repeat (first | exact EvL.nil | (apply EvL.cons; exact z_ev; exact .of rfl))); (first | done | fail)) ?_
        exact rfl
end Go.Proofs.Ytblabchnpkofgaa
