/- The document's answer: what comes out of a layer. Package check: all that is known of a network. Package check: Shapes, Right, Weights, Products, All. -/
import Derived.Test.YtblabchnpkofgaaSA
set_option linter.unusedSimpArgs false
set_option linter.unusedVariables false
namespace Go.Proofs.Ytblabchnpkofgaa
open Go.RowKit Go.Sy
theorem shSized_f {s t : Sh} (h : shRight t = false) : shSized s t = (shZ, false) := by
  unfold shSized
  rw [h, Bool.and_false]
  rfl
theorem shRight_c {s : Sh} (h : s.c < 1 ∨ s.c > 8) : shRight s = false := by
  rw [Bool.eq_false_iff]
  intro k
  have := shRight_iff.1 k
  omega
theorem shRight_h {s : Sh} (h : s.h < 1) : shRight s = false := by
  rw [Bool.eq_false_iff]
  intro k
  have := shRight_iff.1 k
  omega
theorem shRight_w0 {s : Sh} (h : s.w < 1) : shRight s = false := by
  rw [Bool.eq_false_iff]
  intro k
  have := shRight_iff.1 k
  omega
theorem conv1_0 {size step n : Int} (h : ¬ (1 ≤ size ∧ size ≤ n ∧ 1 ≤ step ∧ step ≤ 12)) : conv1 size step n = 0 := by
  unfold conv1
  rw [if_neg]
  simp only [wi, Bool.and_eq_true, decide_eq_true_eq]
  omega
theorem conv1_1 {size step n : Int} (h : 1 ≤ size ∧ size ≤ n ∧ 1 ≤ step ∧ step ≤ 12) : conv1 size step n = (n - size) / step + 1 := by
  unfold conv1
  rw [if_pos]
  simp only [wi, Bool.and_eq_true, decide_eq_true_eq]
  omega
theorem shConv_f {s : Sh} {out size step : Int} (h : ¬ (shRight s = true ∧ 1 ≤ out ∧ out ≤ 8 ∧ 1 ≤ size ∧ size ≤ min s.h s.w ∧ 1 ≤ step ∧ step ≤ 12)) : shConv s out size step = (shZ, false) := by
  by_cases h1 : shRight s = true
  · refine shSized_f ?_
    by_cases h2 : 1 ≤ out ∧ out ≤ 8
    · by_cases h3 : 1 ≤ size ∧ size ≤ s.h ∧ 1 ≤ step ∧ step ≤ 12
      · refine shRight_w0 ?_
        show conv1 size step s.w < 1
        rw [conv1_0]
        · omega
        · intro h4
          exact h ⟨h1, h2.1, h2.2, h4.1, by omega, h4.2.2.1, h4.2.2.2⟩
      · refine shRight_h ?_
        show conv1 size step s.h < 1
        rw [conv1_0 h3]
        omega
    · refine shRight_c ?_
      show out < 1 ∨ out > 8
      omega
  · unfold shConv shSized
    rw [Bool.not_eq_true] at h1
    rw [h1, Bool.false_and]
    rfl
theorem fnRConv (s : Sh) (out size step : Int) : Fn1 Try.prog 35 [shV s, .i out, .i size, .i step] (.tup [shV (shConv s out size step).1, .b (shConv s out size step).2]) := by
  refine Fn1.of (rs := [shV _, .b _]) (res := [.cell 8 23, .tmp 9]) Try.call35 Try.func35 rfl Try.ntmps35 rfl (by simp) fun c hc => ?_
  have k1 := fnRShRight s; refine z_go ?_
  apply Sym.cond
  · rfl
  · intro h
    have hs : shConv s out size step = (shZ, false) := by
      refine shConv_f fun hh => ?_
      simp only [Bool.or_eq_true, Bool.not_eq_true', decide_eq_true_eq] at h
      rcases h with ((((( h | h) | h) | h) | h) | h) | h
      · rw [hh.1] at h
        cases h
      all_goals omega
    rw [hs]
    refine z_go ?_
    with_reducible first | apply Fin.rt | apply Fin.nx
    exact .cons (.cellA inferInstance rfl rfl rfl (Nat.le_of_ble_eq_true rfl) (.of (.of rfl))) (.cons (.tmp rfl (.of (.of rfl))) .nil)
  · intro h
    have hh : shRight s = true ∧ 1 ≤ out ∧ out ≤ 8 ∧ 1 ≤ size ∧ size ≤ min s.h s.w ∧ 1 ≤ step ∧ step ≤ 12 := by
      simp only [Bool.or_eq_false_iff, Bool.not_eq_false', decide_eq_false_iff_not] at h
      obtain ⟨⟨⟨⟨⟨⟨h1, h2⟩, h3⟩, h4⟩, h5⟩, h6⟩, h7⟩ := h
      refine ⟨h1, ?_, ?_, ?_, ?_, ?_, ?_⟩ <;> omega
    have hb := shRight_iff.1 hh.1
    have hh' : 1 ≤ size ∧ size ≤ s.h ∧ size ≤ s.w ∧ 1 ≤ step ∧ step ≤ 12 := by omega
    have e1 := conv1_1 (size := size) (step := step) (n := s.h) (by omega)
    have e2 := conv1_1 (size := size) (step := step) (n := s.w) (by omega)
    have q1 := Int.ediv_le_self (a := s.h - size) step (by omega)
    have q2 := Int.ediv_nonneg (a := s.h - size) (b := step) (by omega) (by omega)
    have q3 := Int.ediv_le_self (a := s.w - size) step (by omega)
    have q4 := Int.ediv_nonneg (a := s.w - size) (b := step) (by omega) (by omega)
    refine z_go ?_
    (apply Sym.drawXL [16, 17] (by kernel_rfl) (by kernel_rfl) (by kernel_rfl))
    refine z_xgo ?_
    rw [← e1, ← e2]
    have hcv : shConv s out size step = if shRight ⟨out, conv1 size step s.h, conv1 size step s.w⟩ then (⟨out, conv1 size step s.h, conv1 size step s.w⟩, true) else (shZ, false) := by
      unfold shConv shSized
      rw [hh.1, Bool.true_and]
    have k1 := fnRShRight ⟨out, conv1 size step s.h, conv1 size step s.w⟩; refine z_go ?_
    apply Sym.cond
    · rfl
    · intro h
      rw [hcv, if_neg (by simpa using h)]
      refine z_go ?_
      with_reducible first | apply Fin.rt | apply Fin.nx
      exact .cons (.cellA inferInstance rfl rfl rfl (Nat.le_of_ble_eq_true rfl) (.of (.of rfl))) (.cons (.tmp rfl (.of (.of rfl))) .nil)
    · intro h
      rw [hcv, if_pos (by simpa using h)]
      refine z_go ?_
      with_reducible first | apply Fin.rt | apply Fin.nx
      exact .cons (.cellA inferInstance rfl rfl rfl (Nat.le_of_ble_eq_true rfl) (.of (.of rfl))) (.cons (.tmp rfl (.of (.of rfl))) .nil)
theorem pool1_0 {size n : Int} (h : ¬ (1 ≤ size ∧ n.tmod size = 0)) : pool1 size n = 0 := by
  unfold pool1
  rw [if_pos]
  simp only [Bool.or_eq_true, decide_eq_true_eq, bne_iff_ne, ne_eq]
  omega
theorem pool1_1 {size n : Int} (h : 1 ≤ size ∧ n.tmod size = 0) (hn : 1 ≤ n ∧ n ≤ 12) : pool1 size n = n.tdiv size ∧ 1 ≤ n.tdiv size ∧ n.tdiv size ≤ n := by
  have e : n.tdiv size = n / size := Int.tdiv_eq_ediv_of_nonneg (by omega)
  have e2 : n.tmod size = n % size := Int.tmod_eq_emod_of_nonneg (by omega)
  have q1 := Int.ediv_le_self (a := n) size (by omega)
  have q2 : 1 ≤ n / size := by
    have h1 := Int.emod_add_mul_ediv n size
    rcases Int.lt_or_le (n / size) 1 with h2 | h2
    · have h3 := Int.ediv_nonneg (a := n) (b := size) (by omega) (by omega)
      have h4 : n / size = 0 := by omega
      rw [h4] at h1
      omega
    · exact h2
  refine ⟨?_, by omega, by omega⟩
  unfold pool1
  rw [if_neg]
  · exact wrap_in _ (by omega) (by omega)
  · simp only [Bool.or_eq_true, decide_eq_true_eq, bne_iff_ne, ne_eq]
    omega
theorem shPool_f {s : Sh} {size : Int} (h : ¬ (shRight s = true ∧ 1 ≤ size ∧ s.h.tmod size = 0 ∧ s.w.tmod size = 0)) : shPool s size = (shZ, false) := by
  by_cases h1 : shRight s = true
  · refine shSized_f ?_
    by_cases h3 : 1 ≤ size ∧ s.h.tmod size = 0
    · refine shRight_w0 ?_
      show pool1 size s.w < 1
      rw [pool1_0]
      · omega
      · intro h4
        exact h ⟨h1, h3.1, h3.2, h4.2⟩
    · refine shRight_h ?_
      show pool1 size s.h < 1
      rw [pool1_0 h3]
      omega
  · unfold shPool shSized
    rw [Bool.not_eq_true] at h1
    rw [h1, Bool.false_and]
    rfl
theorem shRight_le {s t : Sh} (h : shRight s = true) (hc : t.c = s.c) (hh : 1 ≤ t.h ∧ t.h ≤ s.h) (hw : 1 ≤ t.w ∧ t.w ≤ s.w) : shRight t = true := by
  have hb := shRight_iff.1 h
  rw [shRight_iff, hc]
  have m1 : s.c * t.h ≤ s.c * s.h := Int.mul_le_mul_of_nonneg_left hh.2 (by omega)
  have m0 : 0 ≤ s.c * t.h := Int.mul_nonneg (by omega) (by omega)
  have m2 : s.c * t.h * t.w ≤ s.c * s.h * s.w := Int.mul_le_mul m1 hw.2 (by omega) (by omega)
  omega
theorem shPool_t {s : Sh} {size : Int} (h : shRight s = true ∧ 1 ≤ size ∧ s.h.tmod size = 0 ∧ s.w.tmod size = 0) : shPool s size = (⟨s.c, w64 (s.h.tdiv size), w64 (s.w.tdiv size)⟩, true) := by
  have hb := shRight_iff.1 h.1
  have p1 := pool1_1 (size := size) (n := s.h) ⟨h.2.1, h.2.2.1⟩ hb.2.1
  have p2 := pool1_1 (size := size) (n := s.w) ⟨h.2.1, h.2.2.2⟩ hb.2.2.1
  rw [show w64 (s.h.tdiv size) = s.h.tdiv size from wrap_in _ (by omega) (by omega), show w64 (s.w.tdiv size) = s.w.tdiv size from wrap_in _ (by omega) (by omega)]
  unfold shPool shSized
  rw [p1.1, p2.1, h.1, shRight_le (t := ⟨s.c, s.h.tdiv size, s.w.tdiv size⟩) h.1 rfl p1.2 p2.2]
  rfl
theorem fnRPool (s : Sh) (size : Int) : Fn1 Try.prog 36 [shV s, .i size] (.tup [shV (shPool s size).1, .b (shPool s size).2]) := by
  refine Fn1.of (rs := [shV _, .b _]) (res := [.cell 4 23, .tmp 5]) Try.call36 Try.func36 rfl Try.ntmps36 rfl (by simp) fun c hc => ?_
  have k1 := fnRShRight s; refine z_go ?_
  apply Sym.cond
  · rfl
  · intro h
    have hs : shPool s size = (shZ, false) := by
      refine shPool_f fun hh => ?_
      simp only [hh.1, hh.2.2.1, hh.2.2.2, Bool.not_true, Bool.false_or, Bool.or_eq_true, decide_eq_true_eq, bne_self_eq_false, Bool.false_eq_true, or_false] at h
      omega
    rw [hs]
    refine z_go ?_
    with_reducible first | apply Fin.rt | apply Fin.nx
    exact .cons (.cellA inferInstance rfl rfl rfl (Nat.le_of_ble_eq_true rfl) (.of (.of rfl))) (.cons (.tmp rfl (.of (.of rfl))) .nil)
  · intro h
    have hh : shRight s = true ∧ 1 ≤ size ∧ s.h.tmod size = 0 ∧ s.w.tmod size = 0 := by
      simp only [Bool.or_eq_false_iff, Bool.not_eq_false', decide_eq_false_iff_not, bne_eq_false_iff_eq] at h
      obtain ⟨⟨⟨h1, h2⟩, h3⟩, h4⟩ := h
      exact ⟨h1, by omega, h3, h4⟩
    rw [shPool_t hh]
    refine z_go ?_
    (apply Sym.drawXL [11] (by kernel_rfl) (by kernel_rfl) (by kernel_rfl))
    refine z_xgo ?_
    refine z_go ?_
    with_reducible first | apply Fin.rt | apply Fin.nx
    exact .cons (.cellA inferInstance rfl rfl rfl (Nat.le_of_ble_eq_true rfl) (.of (.of rfl))) (.cons (.tmp rfl (.of (.of rfl))) .nil)
/-! ### layer 05's own answer -/
theorem fnROut (s : Sh) (l : Ly) (hk : 1 ≤ l.kind ∧ l.kind ≤ 4) : Fn1 Try.prog 61 [shV s, lyV l] (.tup [shV (outOf s l).1, .b (outOf s l).2]) := by
  refine Fn1.of (rs := [shV _, .b _]) (res := [.cell 4 23, .tmp 5]) Try.call61 Try.func61 rfl Try.ntmps61 rfl (by simp) fun c hc => ?_
  refine z_go ?_
  apply Sym.cond
  · rfl
  · intro h
    have h : l.kind = 1 := by simpa using h
    rw [fits1 h]
    have k1 := fnRConv s l.out l.size l.step; refine z_go ?_
    with_reducible first | apply Fin.rt | apply Fin.nx
    exact .cons (.cellA inferInstance rfl rfl rfl (Nat.le_of_ble_eq_true rfl) (.of (.of rfl))) (.cons (.tmp rfl (.of (.of rfl))) .nil)
  · intro h1
    have h1 : ¬ l.kind = 1 := by simpa using h1
    refine z_go ?_
    apply Sym.cond
    · rfl
    · intro h
      have h : l.kind = 2 := by simpa using h
      rw [fits2 h]
      refine z_go ?_
      with_reducible first | apply Fin.rt | apply Fin.nx
      exact .cons (.cellA inferInstance rfl rfl rfl (Nat.le_of_ble_eq_true rfl) (.of (.of rfl))) (.cons (.tmp rfl (.of (.of rfl))) .nil)
    · intro h2
      have h2 : ¬ l.kind = 2 := by simpa using h2
      refine z_go ?_
      apply Sym.cond
      · rfl
      · intro h
        have h : l.kind = 3 := by simpa using h
        rw [fits3 h]
        have k1 := fnRPool s l.size; refine z_go ?_
        with_reducible first | apply Fin.rt | apply Fin.nx
        exact .cons (.cellA inferInstance rfl rfl rfl (Nat.le_of_ble_eq_true rfl) (.of (.of rfl))) (.cons (.tmp rfl (.of (.of rfl))) .nil)
      · intro h3
        have h3 : ¬ l.kind = 3 := by simpa using h3
        obtain h4 : l.kind = 4 := by omega
        have ho : outOf s l = if decide (l.out < 1) || decide (l.out > 8) then (shZ, false) else (⟨l.out, 1, 1⟩, true) := by simp [outOf, h4]
        refine z_go ?_
        apply Sym.cond
        · rfl
        · intro h
          rw [ho, if_pos (by simpa using h)]
          refine z_go ?_
          with_reducible first | apply Fin.rt | apply Fin.nx
          exact .cons (.cellA inferInstance rfl rfl rfl (Nat.le_of_ble_eq_true rfl) (.of (.of rfl))) (.cons (.tmp rfl (.of (.of rfl))) .nil)
        · intro h
          rw [ho, if_neg (by simpa using h)]
          refine z_go ?_
          with_reducible first | apply Fin.rt | apply Fin.nx
          exact .cons (.cellA inferInstance rfl rfl rfl (Nat.le_of_ble_eq_true rfl) (.of (.of rfl))) (.cons (.tmp rfl (.of (.of rfl))) .nil)
theorem fnRW (s : Sh) (l : Ly) : Fn1 Try.prog 62 [shV s, lyV l] (.i (wOf s l)) := by
  refine Fn1.of (rs := [.i _]) (res := [.tmp 4]) Try.call62 Try.func62 rfl Try.ntmps62 rfl (by simp) fun c hc => ?_
  refine z_go ?_
  apply Sym.cond
  · rfl
  · intro h
    have h : l.kind = 1 := by simpa using h
    rw [show wOf s l = w64 (w64 (w64 (l.out * s.c) * l.size) * l.size) by simp [wOf, h]]
    refine z_go ?_
    with_reducible first | apply Fin.rt | apply Fin.nx
    exact (.cons (.tmp rfl (.of (.of rfl))) .nil)
  · intro h1
    have h1 : ¬ l.kind = 1 := by simpa using h1
    refine z_go ?_
    apply Sym.cond
    · rfl
    · intro h
      have h : l.kind = 4 := by simpa using h
      rw [show wOf s l = w64 (l.out * shSize s) by simp [wOf, h]]
      have k1 := fnRShSize s; refine z_go ?_
      with_reducible first | apply Fin.rt | apply Fin.nx
      exact (.cons (.tmp rfl (.of (.of rfl))) .nil)
    · intro h2
      have h2 : ¬ l.kind = 4 := by simpa using h2
      rw [show wOf s l = 0 by simp [wOf, h1, h2]]
      refine z_go ?_
      with_reducible first | apply Fin.rt | apply Fin.nx
      exact (.cons (.tmp rfl (.of (.of rfl))) .nil)
theorem fnRP (s t : Sh) (l : Ly) : Fn1 Try.prog 63 [shV s, shV t, lyV l] (.i (pOf s t l)) := by
  refine Fn1.of (rs := [.i _]) (res := [.tmp 6]) Try.call63 Try.func63 rfl Try.ntmps63 rfl (by simp) fun c hc => ?_
  refine z_go ?_
  apply Sym.cond
  · rfl
  · intro h
    have h : l.kind = 1 := by simpa using h
    rw [show pOf s t l = w64 (w64 (wOf s l * t.h) * t.w) by simp [pOf, h]]
    have k1 := fnRW s l; refine z_go ?_
    with_reducible first | apply Fin.rt | apply Fin.nx
    exact (.cons (.tmp rfl (.of (.of rfl))) .nil)
  · intro h1
    have h1 : ¬ l.kind = 1 := by simpa using h1
    refine z_go ?_
    apply Sym.cond
    · rfl
    · intro h
      have h : l.kind = 4 := by simpa using h
      rw [show pOf s t l = wOf s l by simp [pOf, h]]
      have k1 := fnRW s l; refine z_go ?_
      with_reducible first | apply Fin.rt | apply Fin.nx
      exact (.cons (.tmp rfl (.of (.of rfl))) .nil)
    · intro h2
      have h2 : ¬ l.kind = 4 := by simpa using h2
      refine z_go ?_
      apply Sym.cond
      · rfl
      · intro h
        have h : l.kind = 2 := by simpa using h
        rw [show pOf s t l = shSize s by simp [pOf, h]]
        have k1 := fnRShSize s; refine z_go ?_
        with_reducible first | apply Fin.rt | apply Fin.nx
        exact (.cons (.tmp rfl (.of (.of rfl))) .nil)
      · intro h3
        have h3 : ¬ l.kind = 2 := by simpa using h3
        rw [show pOf s t l = 0 by simp [pOf, h1, h2, h3]]
        refine z_go ?_
        with_reducible first | apply Fin.rt | apply Fin.nx
        exact (.cons (.tmp rfl (.of (.of rfl))) .nil)
end Go.Proofs.Ytblabchnpkofgaa
set_option linter.unusedSimpArgs false
set_option linter.unusedVariables false
namespace Go.Proofs.Ytblabchnpkofgaa
open Go.RowKit Go.Sy
def lastS (s : Sh) : List Lx → Sh
  | [] => s
  | x :: xs => lastS x.out xs
def chk (s : Sh) : List Ly → Option (List Lx)
  | [] => some []
  | l :: ls => if (outOf s l).2 then (chk (outOf s l).1 ls).map (lxOf s l :: ·) else none
theorem chk_snoc : ∀ (ls : List Ly) (s : Sh) (l : Ly), chk s (ls ++ [l]) = (chk s ls).bind fun xs => if (outOf (lastS s xs) l).2 then some (xs ++ [lxOf (lastS s xs) l]) else none
  | [], s, l => by
    by_cases h : (outOf s l).2 = true <;> simp [chk, lastS, h]
  | a :: ls, s, l => by
    by_cases h : (outOf s a).2 = true
    · simp only [List.cons_append, chk, if_pos h, chk_snoc ls]
      cases chk (outOf s a).1 ls with
      | none => rfl
      | some xs =>
        simp only [Option.bind_some, Option.map_some, lastS]
        by_cases h2 : (outOf (lastS (outOf s a).1 xs) l).2 = true <;> simp [h2]
    · simp [chk, h]
theorem chk_len : ∀ {ls : List Ly} {s : Sh} {xs : List Lx}, chk s ls = some xs → xs.length = ls.length
  | [], _, _, h => by
    simp only [chk, Option.some.injEq] at h
    subst h
    rfl
  | a :: ls, s, xs, h => by
    simp only [chk] at h
    split at h
    · simp only [Option.map_eq_some_iff] at h
      obtain ⟨ys, h1, rfl⟩ := h
      simp [chk_len h1]
    · cases h
theorem chk_none : ∀ {ls ms : List Ly} {s : Sh}, chk s ls = none → chk s (ls ++ ms) = none
  | [], _, _, h => by simp [chk] at h
  | a :: ls, ms, s, h => by
    simp only [List.cons_append, chk] at h ⊢
    split
    · rename_i h1
      rw [if_pos h1, Option.map_eq_none_iff] at h
      rw [chk_none h]
      rfl
    · rfl
def sumW (xs : List Lx) : Int := (xs.map (·.ws)).sum
def sumP (xs : List Lx) : Int := (xs.map (·.ps)).sum
theorem sumW_nil : sumW [] = 0 := rfl
theorem sumP_nil : sumP [] = 0 := rfl
theorem sumW_cons (x : Lx) (xs : List Lx) : sumW (x :: xs) = x.ws + sumW xs := by simp [sumW]
theorem sumP_cons (x : Lx) (xs : List Lx) : sumP (x :: xs) = x.ps + sumP xs := by simp [sumP]
theorem sumW_snoc (xs : List Lx) (x : Lx) : sumW (xs ++ [x]) = sumW xs + x.ws := by simp [sumW]
theorem sumP_snoc (xs : List Lx) (x : Lx) : sumP (xs ++ [x]) = sumP xs + x.ps := by simp [sumP]
def ckE (n : Nt) : Int :=
  if ntForm n then
    if shRight n.inp then
      match chk n.inp n.ls with
      | none => 21
      | some xs => if decide (sumW xs ≤ 512) && decide (sumP xs ≤ 512) then 0 else 5
    else 1
  else 12
def ckL (n : Nt) : List Lx := if ckE n = 0 then (chk n.inp n.ls).getD [] else []
theorem lyForm_kind {l : Ly} (h : lyForm l = true) : 1 ≤ l.kind ∧ l.kind ≤ 4 := by
  unfold lyForm at h
  split at h
  · omega
  split at h
  · omega
  split at h
  · omega
  split at h
  · omega
  · cases h
theorem shSized_t {s t : Sh} (h : (shSized s t).2 = true) : shRight t = true ∧ (shSized s t).1 = t := by
  unfold shSized at h ⊢
  split at h
  · rename_i h1
    rw [Bool.and_eq_true] at h1
    exact ⟨h1.2, by rw [if_pos (by simpa using h1)]⟩
  · cases h
theorem mulB {a b A B : Int} (h1 : 0 ≤ a ∧ a ≤ A) (h2 : 0 ≤ b ∧ b ≤ B) : 0 ≤ a * b ∧ a * b ≤ A * B :=
  ⟨Int.mul_nonneg h1.1 h2.1, Int.mul_le_mul h1.2 h2.2 h2.1 (by omega)⟩
theorem w64_in {a : Int} (h : 0 ≤ a ∧ a ≤ 9223372036854775807) : w64 a = a := wrap_in _ (by omega) (by omega)
theorem out_bounds {s : Sh} {l : Ly} (hs : shRight s = true) (hf : (outOf s l).2 = true) : shRight (outOf s l).1 = true ∧ (0 ≤ wOf s l ∧ wOf s l ≤ 9216) ∧ (0 ≤ pOf s (outOf s l).1 l ∧ pOf s (outOf s l).1 l ≤ 1327104) := by
  have hb := shRight_iff.1 hs
  have hm := shMul hs
  have hz : 0 ≤ shSize s ∧ shSize s ≤ 128 := by
    unfold shSize
    rw [if_pos hs]
    omega
  by_cases h1 : l.kind = 1
  · have e := fits1 (s := s) h1
    rw [e] at hf ⊢
    obtain ⟨h2, h3⟩ := shSized_t (s := s) (t := ⟨l.out, conv1 l.size l.step s.h, conv1 l.size l.step s.w⟩) hf
    have hb2 := shRight_iff.1 h2
    have hsz : 1 ≤ l.size ∧ l.size ≤ 12 := by
      by_cases hh : 1 ≤ l.size ∧ l.size ≤ s.h ∧ 1 ≤ l.step ∧ l.step ≤ 12
      · omega
      · have := conv1_0 (size := l.size) (step := l.step) (n := s.h) hh
        have h4 := hb2.2.1.1
        simp only at h4
        omega
    have hout : 1 ≤ l.out ∧ l.out ≤ 8 := hb2.1
    have m1 := mulB (a := l.out) (b := s.c) (A := 8) (B := 8) (by omega) (by omega)
    have m2 := mulB (a := l.out * s.c) (b := l.size) (A := 64) (B := 12) (by omega) (by omega)
    have m3 := mulB (a := l.out * s.c * l.size) (b := l.size) (A := 768) (B := 12) (by omega) (by omega)
    have ew : wOf s l = l.out * s.c * l.size * l.size := by
      simp only [wOf, h1, if_true]
      rw [w64_in (a := l.out * s.c) (by omega), w64_in (a := l.out * s.c * l.size) (by omega), w64_in (by omega)]
    have m4 := mulB (a := wOf s l) (b := (shConv s l.out l.size l.step).1.h) (A := 9216) (B := 12) (by omega) (by rw [shConv, h3]; have := hb2.2.1; omega)
    have m5 := mulB (a := wOf s l * (shConv s l.out l.size l.step).1.h) (b := (shConv s l.out l.size l.step).1.w) (A := 110592) (B := 12) (by omega) (by rw [shConv, h3]; have := hb2.2.2.1; omega)
    refine ⟨by rw [shConv, h3]; exact h2, by omega, ?_⟩
    simp only [pOf, h1, if_true]
    rw [w64_in (a := wOf s l * (shConv s l.out l.size l.step).1.h) (by omega), w64_in (by omega)]
    omega
  · by_cases h2 : l.kind = 2
    · have e := fits2 (s := s) h2
      rw [e]
      simp only [wOf, pOf, h2, if_true, if_false, Int.reduceEq]
      exact ⟨hs, by omega, by omega⟩
    · by_cases h3 : l.kind = 3
      · have e := fits3 (s := s) h3
        rw [e] at hf ⊢
        obtain ⟨h4, h5⟩ := shSized_t (s := s) (t := ⟨s.c, pool1 l.size s.h, pool1 l.size s.w⟩) hf
        simp only [wOf, pOf, h3, if_true, if_false, Int.reduceEq]
        refine ⟨by rw [shPool, h5]; exact h4, by omega, by omega⟩
      · have e : outOf s l = if decide (l.out < 1) || decide (l.out > 8) then (shZ, false) else (⟨l.out, 1, 1⟩, true) := by simp [outOf, h1, h2, h3]
        rw [e] at hf ⊢
        split at hf
        · cases hf
        · rename_i h4
          rw [if_neg h4]
          simp only [Bool.or_eq_true, decide_eq_true_eq] at h4
          have m1 := mulB (a := l.out) (b := shSize s) (A := 8) (B := 128) (by omega) (by omega)
          have hw : 0 ≤ wOf s l ∧ wOf s l ≤ 9216 := by
            unfold wOf
            rw [if_neg h1]
            split
            · rw [w64_in (by omega)]
              omega
            · omega
          refine ⟨shRight_iff.2 ⟨⟨by simp only; omega, by simp only; omega⟩, by simp, by simp, by simp only; omega⟩, hw, ?_⟩
          unfold pOf
          rw [if_neg h1, if_neg h2]
          split <;> omega
theorem lastS_snoc : ∀ (s : Sh) (xs : List Lx) (x : Lx), lastS s (xs ++ [x]) = x.out
  | _, [], _ => rfl
  | _, a :: xs, x => lastS_snoc a.out xs x
theorem chk_bounds : ∀ {ls : List Ly} {s : Sh} {xs : List Lx}, chk s ls = some xs → shRight s = true → shRight (lastS s xs) = true ∧ (0 ≤ sumW xs ∧ sumW xs ≤ 9216 * (xs.length : Int)) ∧ (0 ≤ sumP xs ∧ sumP xs ≤ 1327104 * (xs.length : Int))
  | [], s, xs, h, hs => by
    simp only [chk, Option.some.injEq] at h
    subst h
    exact ⟨hs, by simp [sumW_nil], by simp [sumP_nil]⟩
  | a :: ls, s, xs, h, hs => by
    simp only [chk] at h
    split at h
    · rename_i hf
      simp only [Option.map_eq_some_iff] at h
      obtain ⟨ys, h1, rfl⟩ := h
      obtain ⟨h2, h3, h4⟩ := out_bounds hs hf
      obtain ⟨h5, h6, h7⟩ := chk_bounds h1 h2
      refine ⟨h5, ?_, ?_⟩ <;> simp only [sumW_cons, sumP_cons, List.length_cons] <;> omega
    · cases h
theorem ntForm_all {n : Nt} (h : ntForm n = true) : n.ls.length ≤ 8 ∧ n.ls.all lyForm = true := by
  unfold ntForm at h
  simp only [Bool.and_eq_true, Bool.not_eq_true', decide_eq_false_iff_not] at h
  exact ⟨by omega, h.2⟩
theorem fnCkAll (n : Nt) : Fn1 Try.prog 60 [ntV n] (.tup [V.list encLx (ckL n), .i (ckE n)]) := by
  refine Fn1.ofD (rs := [V.list encLx (ckL n), .i (ckE n)]) (res := [.cell 2 81, .cell 3 30]) (g := 80) (ds := [.ptr 1 0, .ptr 2 0]) (s0 := ⟨[(3, true, .ptr 2 0), (2, true, .ptr 1 0), (1, true, .ptr 0 0), (0, true, .p (ntV n))], [some (ntBox n), some ⟨[bNil], 81, 0⟩, some ⟨[.p (.x (.int .i64 0))], 30, 0⟩]⟩) Try.call60 Try.func60 rfl Try.ntmps60 rfl (by simp) rfl Try.call80 (fun c hc => ?_) (.cons (Ev.t rfl) (.cons (Ev.t rfl) .nil)) rfl fun c hro hdead hc => ?_
  · refine z_go ?_
    exact ⟨rfl, rfl⟩
  have hc : c.β0.length = 3 := hc
  by_cases hf : ntForm n = true
  · by_cases hs : shRight n.inp = true
    · have hl : n.ls.length ≤ 8 ∧ n.ls.all lyForm = true := ntForm_all hf
      have k1 := fnDForm n; have k2 := fnMustV hf 12; have k3 := fnShRight n.inp; have k4 := fnMustV hs 1; refine z_go ?_
      refine Sym.weak (Le.cellRow 1 0 85 12 rfl rfl rfl z_nrm) ?_
      refine Sym.loop (fun k s => ∃ (i : Nat) (xs : List Lx), i ≤ n.ls.length ∧ chk n.inp (n.ls.take i) = some xs ∧ k = n.ls.length - i ∧ s = ⟨[(23, true, .p (.i i)), (22, true, .p (.i n.ls.length)), (21, true, .p (V.list encLy n.ls)), (6, true, .ptr 3 0), (5, true, .p (.i (sumP xs))), (4, true, .p (.i (sumW xs))), (3, true, .ptr 2 0), (2, true, .ptr 1 0), (1, true, .ptr 0 0)], [some (ntBox n), some ⟨[.row 4 xs.length], 81, 0⟩, some ⟨[.p (.i 0)], 30, 0⟩, some (shBox (lastS n.inp xs)), some ⟨D.enc encLx xs, 85, 12⟩]⟩) n.ls.length ⟨_, ⟨0, [], Nat.zero_le _, rfl, by simp, rfl⟩, ?_⟩ ?_
      · exact z_wkt
      rintro k s ⟨i, xs, hi, hxs, rfl, rfl⟩
      refine z_go ?_
      apply Sym.cond
      · rfl
      · intro hlt
        simp only [decide_eq_true_eq] at hlt
        obtain ⟨el, hel⟩ : ∃ el, n.ls[i]? = some el := ⟨_, List.getElem?_eq_getElem (by omega)⟩
        have hk : 1 ≤ el.kind ∧ el.kind ≤ 4 := lyForm_kind (List.all_eq_true.1 hl.2 _ (List.mem_of_getElem? hel))
        obtain ⟨hr, hw, hp⟩ := chk_bounds hxs hs
        have hxl := chk_len hxs
        rw [List.length_take] at hxl
        by_cases hfit : (outOf (lastS n.inp xs) el).2 = true
        · obtain ⟨hb1, hb2, hb3⟩ := out_bounds hr hfit
          have k1 := fnNextT hk hr hfit; refine z_go ?_
          have hx8 : xs.length ≤ 8 := by omega
          ((apply Sym.drawXP [0, 1, 2, 4, 5, 3, 6, 7] [5, 6, 7] (by kernel_rfl) (by kernel_rfl)); exact z_perm; kernel_rfl; kernel_rfl)
          have a1 : AppH encLx xs [lxOf (lastS n.inp xs) el] := .mk; refine z_xgo ?_
          refine z_go ?_
          refine ⟨_, ?_, _, ⟨i + 1, xs ++ [lxOf (lastS n.inp xs) el], by omega, ?_, rfl, rfl⟩, ?_⟩
          · omega
          · rw [List.take_add_one, hel, Option.toList_some, chk_snoc, hxs, Option.bind_some, if_pos hfit]
          · rw [sumW_snoc, sumP_snoc, lastS_snoc]
            exact z_wkt
        · rw [Bool.not_eq_true] at hfit
          have hE : ckE n = 21 := by
            have h1 : chk n.inp (n.ls.take i ++ [el]) = none := by rw [chk_snoc, hxs, Option.bind_some, if_neg (by simp [hfit])]
            have h2 : n.ls = n.ls.take i ++ [el] ++ n.ls.drop (i + 1) := by
              rw [← Option.toList_some, ← hel, ← List.take_add_one, List.take_append_drop]
            have h3 : chk n.inp n.ls = none := by
              rw [h2]
              exact chk_none h1
            simp [ckE, hf, hs, h3]
          have hL : ckL n = [] := by simp [ckL, hE]
          ((apply Sym.ice encLx 4 xs); rfl; rfl; (rw [hc]; first | exact Nat.zero_le _ | decide); (first | (simp only [TM.ice, TM.argsD, Hp.ice, D.ice, D.iceL, D.iceL_p, Nat.reduceBEq, Nat.beq, cond_true, cond_false, List.set_cons_zero, List.set_cons_succ, List.length_nil, List.length_cons, Nat.beq_refl]; try exact rfl) | exact rfl); (first | (simp only [TM.ice, TM.argsD, Hp.ice, D.ice, D.iceL, D.iceL_p, Nat.reduceBEq, Nat.beq, cond_true, cond_false, List.set_cons_zero, List.set_cons_succ, List.length_nil, List.length_cons, Nat.beq_refl]; try exact rfl) | exact rfl))
          refine z_go ?_
          refine SymL.callP (fnNextF hk hr hfit) z_ev (by (repeat (first | exact EvL.nil | (apply EvL.cons; exact z_ev; exact .of rfl))); (first | done | fail)) ?_
          refine ⟨.panicking (pch (wrongV 21)), .panicking [⟨wrongV 21, true, false⟩], [1, 2], [.ptr 0 0, .ptr 1 0], _, _, rfl, rfl, cdPan 21 (.p (V.list encLx xs)) (.p (.x (.int .i64 0))) 81 30 rfl, rfl, z_given, by decide, ?_⟩
          rw [hE, hL]
          exact .cons (.cell inferInstance rfl rfl rfl rfl (.of (.mk rfl z_vle))) (.cons (.cell inferInstance rfl rfl rfl rfl (.of (.mk rfl z_vle))) .nil)
      · intro hge
        simp only [decide_eq_false_iff_not] at hge
        obtain rfl : i = n.ls.length := by omega
        rw [List.take_length] at hxs
        ((apply Sym.ice encLx 4 xs); rfl; rfl; (rw [hc]; first | exact Nat.zero_le _ | decide); (first | (simp only [TM.ice, TM.argsD, Hp.ice, D.ice, D.iceL, D.iceL_p, Nat.reduceBEq, Nat.beq, cond_true, cond_false, List.set_cons_zero, List.set_cons_succ, List.length_nil, List.length_cons, Nat.beq_refl]; try exact rfl) | exact rfl); (first | (simp only [TM.ice, TM.argsD, Hp.ice, D.ice, D.iceL, D.iceL_p, Nat.reduceBEq, Nat.beq, cond_true, cond_false, List.set_cons_zero, List.set_cons_succ, List.length_nil, List.length_cons, Nat.beq_refl]; try exact rfl) | exact rfl))
        by_cases h5 : (decide (sumW xs ≤ 512) && decide (sumP xs ≤ 512)) = true
        · have hE : ckE n = 0 := by simp only [ckE, hf, hs, hxs, h5, if_true]
          have hL : ckL n = xs := by simp only [ckL, hE, hxs, if_true, Option.getD_some]
          have k1 := fnMustV h5 5; refine z_go ?_
          refine ⟨.returning, .returning, [1, 2], [.ptr 0 0, .ptr 1 0], _, _, rfl, rfl, cdRet (V.list encLx xs) (.x (.int .i64 0)) 81 30, rfl, z_given, by decide, ?_⟩
          rw [hE, hL]
          exact .cons (.cell inferInstance rfl rfl rfl rfl (.of (.mk rfl z_vle))) (.cons (.cell inferInstance rfl rfl rfl rfl (.of (.mk rfl z_vle))) .nil)
        · rw [Bool.not_eq_true] at h5
          have hE : ckE n = 5 := by simp only [ckE, hf, hs, hxs, h5, if_true, Bool.false_eq_true, if_false]
          have hL : ckL n = [] := by simp [ckL, hE]
          refine z_go ?_
          refine SymL.callP (fnMustP h5 5) z_ev (by (repeat (first | exact EvL.nil | (apply EvL.cons; exact z_ev; exact .of rfl))); (first | done | fail)) ?_
          refine ⟨.panicking (pch (wrongV 5)), .panicking [⟨wrongV 5, true, false⟩], [1, 2], [.ptr 0 0, .ptr 1 0], _, _, rfl, rfl, cdPan 5 (.p (V.list encLx xs)) (.p (.x (.int .i64 0))) 81 30 rfl, rfl, z_given, by decide, ?_⟩
          rw [hE, hL]
          exact .cons (.cell inferInstance rfl rfl rfl rfl (.of (.mk rfl z_vle))) (.cons (.cell inferInstance rfl rfl rfl rfl (.of (.mk rfl z_vle))) .nil)
    · rw [Bool.not_eq_true] at hs
      have hE : ckE n = 1 := by simp [ckE, hf, hs]
      have hL : ckL n = [] := by simp [ckL, hE]
      have k1 := fnDForm n; have k2 := fnMustV hf 12; have k3 := fnShRight n.inp; refine z_go ?_
      refine SymL.callP (fnMustP hs 1) z_ev (by (repeat (first | exact EvL.nil | (apply EvL.cons; exact z_ev; exact .of rfl))); (first | done | fail)) ?_
      refine ⟨.panicking (pch (wrongV 1)), .panicking [⟨wrongV 1, true, false⟩], [1, 2], [.ptr 0 0, .ptr 1 0], _, _, rfl, rfl, cdPan 1 bNil (.p (.x (.int .i64 0))) 81 30 rfl, rfl, z_given, by decide, ?_⟩
      rw [hE, hL]
      exact .cons (.cell inferInstance rfl rfl rfl rfl (.of (.mk rfl z_vle))) (.cons (.cell inferInstance rfl rfl rfl rfl (.of (.mk rfl z_vle))) .nil)
  · rw [Bool.not_eq_true] at hf
    have hE : ckE n = 12 := by simp [ckE, hf]
    have hL : ckL n = [] := by simp [ckL, hE]
    have k1 := fnDForm n; refine z_go ?_
    refine SymL.callP (fnMustP hf 12) z_ev (by (repeat (first | exact EvL.nil | (apply EvL.cons; exact z_ev; exact .of rfl))); (first | done | fail)) ?_
    refine ⟨.panicking (pch (wrongV 12)), .panicking [⟨wrongV 12, true, false⟩], [1, 2], [.ptr 0 0, .ptr 1 0], _, _, rfl, rfl, cdPan 12 bNil (.p (.x (.int .i64 0))) 81 30 rfl, rfl, z_given, by decide, ?_⟩
    rw [hE, hL]
    exact .cons (.cell inferInstance rfl rfl rfl rfl (.of (.mk rfl z_vle))) (.cons (.cell inferInstance rfl rfl rfl rfl (.of (.mk rfl z_vle))) .nil)
end Go.Proofs.Ytblabchnpkofgaa
set_option linter.unusedSimpArgs false
set_option linter.unusedVariables false
namespace Go.Proofs.Ytblabchnpkofgaa
open Go.RowKit Go.Sy
abbrev encSh (s : Sh) : List V := [.i s.c, .i s.h, .i s.w]
def ckS (n : Nt) : List Sh := if ckE n = 0 then n.inp :: (ckL n).map (·.out) else []
def ckW (n : Nt) (i : Int) : Int × Int := if 0 ≤ i ∧ i < (ckL n).length then (sumW ((ckL n).take i.toNat), ((ckL n).map (·.ws)).getD i.toNat 0) else (0, 0)
def ckP (n : Nt) (i : Int) : Int := if 0 ≤ i ∧ i < (ckL n).length then ((ckL n).map (·.ps)).getD i.toNat 0 else 0
theorem ckE_ok {n : Nt} (h : ckE n = 0) : ntForm n = true ∧ shRight n.inp = true ∧ chk n.inp n.ls = some (ckL n) ∧ sumW (ckL n) ≤ 512 ∧ sumP (ckL n) ≤ 512 := by
  have h0 := h
  unfold ckE at h
  split at h
  · rename_i h1
    split at h
    · rename_i h2
      split at h
      · cases h
      · rename_i xs h3
        split at h
        · rename_i h4
          simp only [Bool.and_eq_true, decide_eq_true_eq] at h4
          have h5 : ckL n = xs := by simp [ckL, h0, h3]
          rw [h5]
          exact ⟨h1, h2, h3, h4⟩
        · cases h
    · cases h
  · cases h
theorem chk_nonneg : ∀ {ls : List Ly} {s : Sh} {xs : List Lx}, chk s ls = some xs → shRight s = true → ∀ x ∈ xs, 0 ≤ x.ws ∧ 0 ≤ x.ps
  | [], s, xs, h, hs => by
    simp only [chk, Option.some.injEq] at h
    subst h
    simp
  | a :: ls, s, xs, h, hs => by
    simp only [chk] at h
    split at h
    · rename_i hf
      simp only [Option.map_eq_some_iff] at h
      obtain ⟨ys, h1, rfl⟩ := h
      obtain ⟨h2, h3, h4⟩ := out_bounds hs hf
      intro x hx
      rcases List.mem_cons.1 hx with rfl | hx
      · exact ⟨h3.1, h4.1⟩
      · exact chk_nonneg h1 h2 x hx
    · cases h
theorem sum_take {α : Type} (f : α → Int) : ∀ (xs : List α), (∀ x ∈ xs, 0 ≤ f x) → ∀ i, 0 ≤ ((xs.take i).map f).sum ∧ ((xs.take i).map f).sum ≤ (xs.map f).sum
  | [], _, i => by simp
  | a :: xs, h, i => by
    have h1 := h a (by simp)
    have h2 := fun j => sum_take f xs (fun x hx => h x (List.mem_cons_of_mem _ hx)) j
    cases i with
    | zero =>
      have h3 := h2 0
      simp at h3 ⊢
      omega
    | succ i =>
      have h3 := h2 i
      simp only [List.take_succ_cons, List.map_cons, List.sum_cons]
      omega
theorem ckL_ok (n : Nt) : (ckL n).length ≤ 8 ∧ ∀ i, (0 ≤ sumW ((ckL n).take i) ∧ sumW ((ckL n).take i) ≤ 512) ∧ (0 ≤ sumP ((ckL n).take i) ∧ sumP ((ckL n).take i) ≤ 512) := by
  by_cases h : ckE n = 0
  · obtain ⟨h1, h2, h3, h4, h5⟩ := ckE_ok h
    refine ⟨?_, fun i => ?_⟩
    · rw [chk_len h3]
      exact (ntForm_all h1).1
    · have a1 := sum_take (fun x : Lx => x.ws) (ckL n) (fun x hx => (chk_nonneg h3 h2 x hx).1) i
      have a2 := sum_take (fun x : Lx => x.ps) (ckL n) (fun x hx => (chk_nonneg h3 h2 x hx).2) i
      unfold sumW sumP at *
      omega
  · have : ckL n = [] := by simp [ckL, h]
    rw [this]
    simp [sumW, sumP]
theorem fnCkRight (n : Nt) : Fn1 Try.prog 31 [ntV n] (.b (ckE n == 0)) := by
  refine Fn1.of (rs := [.b _]) (res := [.tmp 2]) Try.call31 Try.func31 rfl Try.ntmps31 rfl (by simp) fun c hc => ?_
  have k1 := fnCkAll n; refine z_go ?_
  with_reducible first | apply Fin.rt | apply Fin.nx
  exact (.cons (.tmp rfl (.of (.of rfl))) .nil)
theorem fnCkProducts (n : Nt) (i : Int) : Fn1 Try.prog 33 [ntV n, .i i] (.i (ckP n i)) := by
  refine Fn1.of (rs := [.i _]) (res := [.tmp 4]) Try.call33 Try.func33 rfl Try.ntmps33 rfl (by simp) fun c hc => ?_
  have k1 := fnCkAll n; refine z_go ?_
  apply Sym.cond
  · rfl
  · intro h
    simp only [Bool.and_eq_true, decide_eq_true_eq] at h
    obtain ⟨j, rfl⟩ : ∃ j : Nat, i = j := ⟨i.toNat, by omega⟩
    obtain ⟨el, hel⟩ : ∃ el, (ckL n)[j]? = some el := ⟨_, List.getElem?_eq_getElem (by omega)⟩
    rw [show ckP n j = el.ps by
      unfold ckP
      rw [if_pos (by omega)]
      simp [hel]]
    refine z_go ?_
    with_reducible first | apply Fin.rt | apply Fin.nx
    exact (.cons (.tmp rfl (.of (.of rfl))) .nil)
  · intro h
    rw [show ckP n i = 0 by
      unfold ckP
      rw [if_neg]
      simp only [Bool.and_eq_false_iff, decide_eq_false_iff_not] at h
      omega]
    refine z_go ?_
    with_reducible first | apply Fin.rt | apply Fin.nx
    exact (.cons (.tmp rfl (.of (.of rfl))) .nil)
theorem fnCkWeights (n : Nt) (i : Int) : Fn1 Try.prog 26 [ntV n, .i i] (.tup [.i (ckW n i).1, .i (ckW n i).2]) := by
  refine Fn1.of (rs := [.i _, .i _]) (res := [.tmp 4, .tmp 5]) Try.call26 Try.func26 rfl Try.ntmps26 rfl (by simp) fun c hc => ?_
  obtain ⟨hl, hsum⟩ := ckL_ok n
  have k1 := fnCkAll n; refine z_go ?_
  refine Sym.loop (fun k s => ∃ j : Nat, j ≤ (ckL n).length ∧ (∀ q : Nat, q < j → i ≠ q) ∧ k = (ckL n).length - j ∧ s = ⟨[(18, true, .p (.i j)), (17, true, .p (.i (ckL n).length)), (16, true, .p (V.list encLx (ckL n))), (6, true, .p (.i (sumW ((ckL n).take j)))), (1, true, .p (.i i))], []⟩) (ckL n).length ⟨_, ⟨0, Nat.zero_le _, by omega, by simp, rfl⟩, ?_⟩ ?_
  · exact z_wkt
  rintro k s ⟨j, hj, hne, rfl, rfl⟩
  refine z_go ?_
  apply Sym.cond
  · rfl
  · intro hlt
    simp only [decide_eq_true_eq] at hlt
    obtain ⟨el, hel⟩ : ∃ el, (ckL n)[j]? = some el := ⟨_, List.getElem?_eq_getElem (by omega)⟩
    have hs2 : sumW ((ckL n).take (j + 1)) = sumW ((ckL n).take j) + el.ws := by rw [List.take_add_one, hel, Option.toList_some, sumW_snoc]
    have b1 := (hsum j).1
    have b2 := (hsum (j + 1)).1
    refine z_go ?_
    apply Sym.cond
    · rfl
    · intro he
      have he : (j : Int) = i := by simpa using he
      rw [show ckW n i = (sumW ((ckL n).take j), el.ws) by
        unfold ckW
        rw [if_pos (by omega), ← he]
        simp [hel]]
      refine z_go ?_
      with_reducible first | apply Fin.rt | apply Fin.nx
      exact .cons (.tmp rfl (.of (.of rfl))) (.cons (.tmp rfl (.of (.of rfl))) .nil)
    · intro he
      have he : ¬ (j : Int) = i := by simpa using he
      refine z_go ?_
      refine ⟨_, ?_, _, ⟨j + 1, by omega, ?_, rfl, rfl⟩, ?_⟩
      · omega
      · intro q hq
        rcases Nat.lt_or_ge q j with h | h
        · exact hne q h
        · obtain rfl : q = j := by omega
          exact fun h => he h.symm
      · rw [hs2]
        exact z_wkt
  · intro hge
    simp only [decide_eq_false_iff_not] at hge
    rw [show ckW n i = (0, 0) by
      unfold ckW
      rw [if_neg]
      intro h
      exact hne i.toNat (by omega) (by omega)]
    refine z_go ?_
    with_reducible first | apply Fin.rt | apply Fin.nx
    exact .cons (.tmp rfl (.of (.of rfl))) (.cons (.tmp rfl (.of (.of rfl))) .nil)
theorem fnCkShapes (n : Nt) : Fn1 Try.prog 24 [ntV n] (.tup [V.list encSh (ckS n), .i (ckE n)]) := by
  refine Fn1.of (rs := [V.list encSh (ckS n), .i _]) (res := [.tmp 2, .tmp 3]) Try.call24 Try.func24 rfl Try.ntmps24 rfl (by simp) fun c hc => ?_
  obtain ⟨hl, hsum⟩ := ckL_ok n
  have k1 := fnCkAll n; refine z_go ?_
  apply Sym.cond
  · rfl
  · intro h
    rw [show ckS n = [] by
      unfold ckS
      rw [if_neg (by simpa using h)]]
    refine z_go ?_
    with_reducible first | apply Fin.rt | apply Fin.nx
    exact .cons (.tmp rfl (.of (.mk rfl z_vle))) (.cons (.tmp rfl (.of (.of rfl))) .nil)
  · intro h
    have h : ckE n = 0 := by simpa using h
    rw [show ckS n = n.inp :: (ckL n).map (·.out) from if_pos h, h]
    have b1 : RowH 19 := .mk; refine z_go ?_
    refine Sym.loop (fun k s => ∃ j : Nat, j ≤ (ckL n).length ∧ k = (ckL n).length - j ∧ s = ⟨[(22, true, .p (.i j)), (21, true, .p (.i (ckL n).length)), (20, true, .p (V.list encLx (ckL n))), (6, true, .row 1 (n.inp :: ((ckL n).take j).map (·.out)).length)], [none, some ⟨D.enc encSh (n.inp :: ((ckL n).take j).map (·.out)), 23, 3⟩]⟩) (ckL n).length ⟨_, ⟨0, Nat.zero_le _, by simp, rfl⟩, ?_⟩ ?_
    · exact z_wkt
    rintro k s ⟨j, hj, rfl, rfl⟩
    refine z_go ?_
    apply Sym.cond
    · rfl
    · intro hlt
      simp only [decide_eq_true_eq] at hlt
      obtain ⟨el, hel⟩ : ∃ el, (ckL n)[j]? = some el := ⟨_, List.getElem?_eq_getElem (by omega)⟩
      have hll : (n.inp :: ((ckL n).take j).map (·.out)).length ≤ 9 := by
        simp
        omega
      have a1 : AppH encSh (n.inp :: ((ckL n).take j).map (·.out)) [el.out] := .mk; refine z_go ?_
      refine ⟨_, ?_, _, ⟨j + 1, by omega, rfl, rfl⟩, ?_⟩
      · omega
      · rw [show n.inp :: ((ckL n).take (j + 1)).map (·.out) = (n.inp :: ((ckL n).take j).map (·.out)) ++ [el.out] by simp [List.take_add_one, hel]]
        exact z_wkt
    · intro hge
      simp only [decide_eq_false_iff_not] at hge
      obtain rfl : j = (ckL n).length := by omega
      rw [List.take_length]
      refine z_go ?_
      with_reducible first | apply Fin.rt | apply Fin.nx
      exact .cons (.tmp rfl (DVr.list encSh _ rfl (fun q => rfl) rfl rfl)) (.cons (.tmp rfl (.of (.of rfl))) .nil)
theorem fnCkSums (n : Nt) : Fn1 Try.prog 28 [ntV n] (.tup [.i (sumW (ckL n)), .i (sumP (ckL n))]) := by
  refine Fn1.of (rs := [.i _, .i _]) (res := [.tmp 2, .tmp 3]) Try.call28 Try.func28 rfl Try.ntmps28 rfl (by simp) fun c hc => ?_
  obtain ⟨hl, hsum⟩ := ckL_ok n
  have k1 := fnCkAll n; refine z_go ?_
  refine Sym.loop (fun k s => ∃ j : Nat, j ≤ (ckL n).length ∧ k = (ckL n).length - j ∧ s = ⟨[(17, true, .p (.i j)), (16, true, .p (.i (ckL n).length)), (15, true, .p (V.list encLx (ckL n))), (5, true, .p (.i (sumP ((ckL n).take j)))), (4, true, .p (.i (sumW ((ckL n).take j))))], []⟩) (ckL n).length ⟨_, ⟨0, Nat.zero_le _, by simp, rfl⟩, ?_⟩ ?_
  · exact z_wkt
  rintro k s ⟨j, hj, rfl, rfl⟩
  refine z_go ?_
  apply Sym.cond
  · rfl
  · intro hlt
    simp only [decide_eq_true_eq] at hlt
    obtain ⟨el, hel⟩ : ∃ el, (ckL n)[j]? = some el := ⟨_, List.getElem?_eq_getElem (by omega)⟩
    have hs2 : sumW ((ckL n).take (j + 1)) = sumW ((ckL n).take j) + el.ws := by rw [List.take_add_one, hel, Option.toList_some, sumW_snoc]
    have hs3 : sumP ((ckL n).take (j + 1)) = sumP ((ckL n).take j) + el.ps := by rw [List.take_add_one, hel, Option.toList_some, sumP_snoc]
    have b1 := hsum j
    have b2 := hsum (j + 1)
    refine z_go ?_
    refine ⟨_, ?_, _, ⟨j + 1, by omega, rfl, rfl⟩, ?_⟩
    · omega
    · rw [hs2, hs3]
      exact z_wkt
  · intro hge
    simp only [decide_eq_false_iff_not] at hge
    obtain rfl : j = (ckL n).length := by omega
    rw [List.take_length]
    refine z_go ?_
    with_reducible first | apply Fin.rt | apply Fin.nx
    exact .cons (.tmp rfl (.of (.of rfl))) (.cons (.tmp rfl (.of (.of rfl))) .nil)
end Go.Proofs.Ytblabchnpkofgaa
