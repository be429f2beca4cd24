/- The document's answer: what comes out of a layer. -/
import Derived.Test.YtblabchnpkofgaaS5
set_option linter.unusedSimpArgs false
set_option linter.unusedVariables false
namespace Go.Proofs.Ytblabchnpkofgaa
open Go.RowKit Go.Sy
theorem shSized_f {s t : Sh} (h : shRight t = false) : shSized s t = (shZ, false) := by
  unfold shSized
  rw [h, Bool.and_false]
  rfl
theorem shRight_c {s : Sh} (h : s.c < 1 ∨ s.c > 8) : shRight s = false := by
  rw [Bool.eq_false_iff]
  intro k
  have := shRight_iff.1 k
  omega
theorem shRight_h {s : Sh} (h : s.h < 1) : shRight s = false := by
  rw [Bool.eq_false_iff]
  intro k
  have := shRight_iff.1 k
  omega
theorem shRight_w0 {s : Sh} (h : s.w < 1) : shRight s = false := by
  rw [Bool.eq_false_iff]
  intro k
  have := shRight_iff.1 k
  omega
theorem conv1_0 {size step n : Int} (h : ¬ (1 ≤ size ∧ size ≤ n ∧ 1 ≤ step ∧ step ≤ 12)) : conv1 size step n = 0 := by
  unfold conv1
  rw [if_neg]
  simp only [wi, Bool.and_eq_true, decide_eq_true_eq]
  omega
theorem conv1_1 {size step n : Int} (h : 1 ≤ size ∧ size ≤ n ∧ 1 ≤ step ∧ step ≤ 12) : conv1 size step n = (n - size) / step + 1 := by
  unfold conv1
  rw [if_pos]
  simp only [wi, Bool.and_eq_true, decide_eq_true_eq]
  omega
theorem shConv_f {s : Sh} {out size step : Int} (h : ¬ (shRight s = true ∧ 1 ≤ out ∧ out ≤ 8 ∧ 1 ≤ size ∧ size ≤ min s.h s.w ∧ 1 ≤ step ∧ step ≤ 12)) : shConv s out size step = (shZ, false) := by
  by_cases h1 : shRight s = true
  · refine shSized_f ?_
    by_cases h2 : 1 ≤ out ∧ out ≤ 8
    · by_cases h3 : 1 ≤ size ∧ size ≤ s.h ∧ 1 ≤ step ∧ step ≤ 12
      · refine shRight_w0 ?_
        show conv1 size step s.w < 1
        rw [conv1_0]
        · omega
        · intro h4
          exact h ⟨h1, h2.1, h2.2, h4.1, by omega, h4.2.2.1, h4.2.2.2⟩
      · refine shRight_h ?_
        show conv1 size step s.h < 1
        rw [conv1_0 h3]
        omega
    · refine shRight_c ?_
      show out < 1 ∨ out > 8
      omega
  · unfold shConv shSized
    rw [Bool.not_eq_true] at h1
    rw [h1, Bool.false_and]
    rfl
theorem fnRConv (s : Sh) (out size step : Int) : Fn1 Try.prog 35 [shV s, .i out, .i size, .i step] (.tup [shV (shConv s out size step).1, .b (shConv s out size step).2]) := by
  refine Fn1.of (rs := [shV _, .b _]) (res := [.cell 8 23, .tmp 9]) Try.call35 Try.func35 rfl Try.ntmps35 rfl (by simp) fun c hc => ?_
  have k1 := fnRShRight s; refine z_go ?_
  apply Sym.cond
  · rfl
  · intro h
    have hs : shConv s out size step = (shZ, false) := by
      refine shConv_f fun hh => ?_
      simp only [Bool.or_eq_true, Bool.not_eq_true', decide_eq_true_eq] at h
      rcases h with ((((( h | h) | h) | h) | h) | h) | h
      · rw [hh.1] at h
        cases h
      all_goals omega
    rw [hs]
    refine z_go ?_
    with_reducible first | apply Fin.rt | apply Fin.nx
    exact .cons (.cellA inferInstance rfl rfl rfl (Nat.le_of_ble_eq_true rfl) (.of (.of rfl))) (.cons (.tmp rfl (.of (.of rfl))) .nil)
  · intro h
    have hh : shRight s = true ∧ 1 ≤ out ∧ out ≤ 8 ∧ 1 ≤ size ∧ size ≤ min s.h s.w ∧ 1 ≤ step ∧ step ≤ 12 := by
      simp only [Bool.or_eq_false_iff, Bool.not_eq_false', decide_eq_false_iff_not] at h
      obtain ⟨⟨⟨⟨⟨⟨h1, h2⟩, h3⟩, h4⟩, h5⟩, h6⟩, h7⟩ := h
      refine ⟨h1, ?_, ?_, ?_, ?_, ?_, ?_⟩ <;> omega
    have hb := shRight_iff.1 hh.1
    have hh' : 1 ≤ size ∧ size ≤ s.h ∧ size ≤ s.w ∧ 1 ≤ step ∧ step ≤ 12 := by omega
    have e1 := conv1_1 (size := size) (step := step) (n := s.h) (by omega)
    have e2 := conv1_1 (size := size) (step := step) (n := s.w) (by omega)
    have q1 := Int.ediv_le_self (a := s.h - size) step (by omega)
    have q2 := Int.ediv_nonneg (a := s.h - size) (b := step) (by omega) (by omega)
    have q3 := Int.ediv_le_self (a := s.w - size) step (by omega)
    have q4 := Int.ediv_nonneg (a := s.w - size) (b := step) (by omega) (by omega)
    refine z_go ?_
    (apply Sym.drawXL [16, 17] (by kernel_rfl) (by kernel_rfl) (by kernel_rfl))
    refine z_xgo ?_
    rw [← e1, ← e2]
    have hcv : shConv s out size step = if shRight ⟨out, conv1 size step s.h, conv1 size step s.w⟩ then (⟨out, conv1 size step s.h, conv1 size step s.w⟩, true) else (shZ, false) := by
      unfold shConv shSized
      rw [hh.1, Bool.true_and]
    have k1 := fnRShRight ⟨out, conv1 size step s.h, conv1 size step s.w⟩; refine z_go ?_
    apply Sym.cond
    · rfl
    · intro h
      rw [hcv, if_neg (by simpa using h)]
      refine z_go ?_
      with_reducible first | apply Fin.rt | apply Fin.nx
      exact .cons (.cellA inferInstance rfl rfl rfl (Nat.le_of_ble_eq_true rfl) (.of (.of rfl))) (.cons (.tmp rfl (.of (.of rfl))) .nil)
    · intro h
      rw [hcv, if_pos (by simpa using h)]
      refine z_go ?_
      with_reducible first | apply Fin.rt | apply Fin.nx
      exact .cons (.cellA inferInstance rfl rfl rfl (Nat.le_of_ble_eq_true rfl) (.of (.of rfl))) (.cons (.tmp rfl (.of (.of rfl))) .nil)
theorem pool1_0 {size n : Int} (h : ¬ (1 ≤ size ∧ n.tmod size = 0)) : pool1 size n = 0 := by
  unfold pool1
  rw [if_pos]
  simp only [Bool.or_eq_true, decide_eq_true_eq, bne_iff_ne, ne_eq]
  omega
theorem pool1_1 {size n : Int} (h : 1 ≤ size ∧ n.tmod size = 0) (hn : 1 ≤ n ∧ n ≤ 12) : pool1 size n = n.tdiv size ∧ 1 ≤ n.tdiv size ∧ n.tdiv size ≤ n := by
  have e : n.tdiv size = n / size := Int.tdiv_eq_ediv_of_nonneg (by omega)
  have e2 : n.tmod size = n % size := Int.tmod_eq_emod_of_nonneg (by omega)
  have q1 := Int.ediv_le_self (a := n) size (by omega)
  have q2 : 1 ≤ n / size := by
    have h1 := Int.emod_add_mul_ediv n size
    rcases Int.lt_or_le (n / size) 1 with h2 | h2
    · have h3 := Int.ediv_nonneg (a := n) (b := size) (by omega) (by omega)
      have h4 : n / size = 0 := by omega
      rw [h4] at h1
      omega
    · exact h2
  refine ⟨?_, by omega, by omega⟩
  unfold pool1
  rw [if_neg]
  · exact wrap_in _ (by omega) (by omega)
  · simp only [Bool.or_eq_true, decide_eq_true_eq, bne_iff_ne, ne_eq]
    omega
theorem shPool_f {s : Sh} {size : Int} (h : ¬ (shRight s = true ∧ 1 ≤ size ∧ s.h.tmod size = 0 ∧ s.w.tmod size = 0)) : shPool s size = (shZ, false) := by
  by_cases h1 : shRight s = true
  · refine shSized_f ?_
    by_cases h3 : 1 ≤ size ∧ s.h.tmod size = 0
    · refine shRight_w0 ?_
      show pool1 size s.w < 1
      rw [pool1_0]
      · omega
      · intro h4
        exact h ⟨h1, h3.1, h3.2, h4.2⟩
    · refine shRight_h ?_
      show pool1 size s.h < 1
      rw [pool1_0 h3]
      omega
  · unfold shPool shSized
    rw [Bool.not_eq_true] at h1
    rw [h1, Bool.false_and]
    rfl
theorem shRight_le {s t : Sh} (h : shRight s = true) (hc : t.c = s.c) (hh : 1 ≤ t.h ∧ t.h ≤ s.h) (hw : 1 ≤ t.w ∧ t.w ≤ s.w) : shRight t = true := by
  have hb := shRight_iff.1 h
  rw [shRight_iff, hc]
  have m1 : s.c * t.h ≤ s.c * s.h := Int.mul_le_mul_of_nonneg_left hh.2 (by omega)
  have m0 : 0 ≤ s.c * t.h := Int.mul_nonneg (by omega) (by omega)
  have m2 : s.c * t.h * t.w ≤ s.c * s.h * s.w := Int.mul_le_mul m1 hw.2 (by omega) (by omega)
  omega
theorem shPool_t {s : Sh} {size : Int} (h : shRight s = true ∧ 1 ≤ size ∧ s.h.tmod size = 0 ∧ s.w.tmod size = 0) : shPool s size = (⟨s.c, w64 (s.h.tdiv size), w64 (s.w.tdiv size)⟩, true) := by
  have hb := shRight_iff.1 h.1
  have p1 := pool1_1 (size := size) (n := s.h) ⟨h.2.1, h.2.2.1⟩ hb.2.1
  have p2 := pool1_1 (size := size) (n := s.w) ⟨h.2.1, h.2.2.2⟩ hb.2.2.1
  rw [show w64 (s.h.tdiv size) = s.h.tdiv size from wrap_in _ (by omega) (by omega), show w64 (s.w.tdiv size) = s.w.tdiv size from wrap_in _ (by omega) (by omega)]
  unfold shPool shSized
  rw [p1.1, p2.1, h.1, shRight_le (t := ⟨s.c, s.h.tdiv size, s.w.tdiv size⟩) h.1 rfl p1.2 p2.2]
  rfl
theorem fnRPool (s : Sh) (size : Int) : Fn1 Try.prog 36 [shV s, .i size] (.tup [shV (shPool s size).1, .b (shPool s size).2]) := by
  refine Fn1.of (rs := [shV _, .b _]) (res := [.cell 4 23, .tmp 5]) Try.call36 Try.func36 rfl Try.ntmps36 rfl (by simp) fun c hc => ?_
  have k1 := fnRShRight s; refine z_go ?_
  apply Sym.cond
  · rfl
  · intro h
    have hs : shPool s size = (shZ, false) := by
      refine shPool_f fun hh => ?_
      simp only [hh.1, hh.2.2.1, hh.2.2.2, Bool.not_true, Bool.false_or, Bool.or_eq_true, decide_eq_true_eq, bne_self_eq_false, Bool.false_eq_true, or_false] at h
      omega
    rw [hs]
    refine z_go ?_
    with_reducible first | apply Fin.rt | apply Fin.nx
    exact .cons (.cellA inferInstance rfl rfl rfl (Nat.le_of_ble_eq_true rfl) (.of (.of rfl))) (.cons (.tmp rfl (.of (.of rfl))) .nil)
  · intro h
    have hh : shRight s = true ∧ 1 ≤ size ∧ s.h.tmod size = 0 ∧ s.w.tmod size = 0 := by
      simp only [Bool.or_eq_false_iff, Bool.not_eq_false', decide_eq_false_iff_not, bne_eq_false_iff_eq] at h
      obtain ⟨⟨⟨h1, h2⟩, h3⟩, h4⟩ := h
      exact ⟨h1, by omega, h3, h4⟩
    rw [shPool_t hh]
    refine z_go ?_
    (apply Sym.drawXL [11] (by kernel_rfl) (by kernel_rfl) (by kernel_rfl))
    refine z_xgo ?_
    refine z_go ?_
    with_reducible first | apply Fin.rt | apply Fin.nx
    exact .cons (.cellA inferInstance rfl rfl rfl (Nat.le_of_ble_eq_true rfl) (.of (.of rfl))) (.cons (.tmp rfl (.of (.of rfl))) .nil)
/-! ### layer 05's own answer -/
theorem fnROut (s : Sh) (l : Ly) (hk : 1 ≤ l.kind ∧ l.kind ≤ 4) : Fn1 Try.prog 61 [shV s, lyV l] (.tup [shV (outOf s l).1, .b (outOf s l).2]) := by
  refine Fn1.of (rs := [shV _, .b _]) (res := [.cell 4 23, .tmp 5]) Try.call61 Try.func61 rfl Try.ntmps61 rfl (by simp) fun c hc => ?_
  refine z_go ?_
  apply Sym.cond
  · rfl
  · intro h
    have h : l.kind = 1 := by simpa using h
    rw [fits1 h]
    have k1 := fnRConv s l.out l.size l.step; refine z_go ?_
    with_reducible first | apply Fin.rt | apply Fin.nx
    exact .cons (.cellA inferInstance rfl rfl rfl (Nat.le_of_ble_eq_true rfl) (.of (.of rfl))) (.cons (.tmp rfl (.of (.of rfl))) .nil)
  · intro h1
    have h1 : ¬ l.kind = 1 := by simpa using h1
    refine z_go ?_
    apply Sym.cond
    · rfl
    · intro h
      have h : l.kind = 2 := by simpa using h
      rw [fits2 h]
      refine z_go ?_
      with_reducible first | apply Fin.rt | apply Fin.nx
      exact .cons (.cellA inferInstance rfl rfl rfl (Nat.le_of_ble_eq_true rfl) (.of (.of rfl))) (.cons (.tmp rfl (.of (.of rfl))) .nil)
    · intro h2
      have h2 : ¬ l.kind = 2 := by simpa using h2
      refine z_go ?_
      apply Sym.cond
      · rfl
      · intro h
        have h : l.kind = 3 := by simpa using h
        rw [fits3 h]
        have k1 := fnRPool s l.size; refine z_go ?_
        with_reducible first | apply Fin.rt | apply Fin.nx
        exact .cons (.cellA inferInstance rfl rfl rfl (Nat.le_of_ble_eq_true rfl) (.of (.of rfl))) (.cons (.tmp rfl (.of (.of rfl))) .nil)
      · intro h3
        have h3 : ¬ l.kind = 3 := by simpa using h3
        obtain h4 : l.kind = 4 := by omega
        have ho : outOf s l = if decide (l.out < 1) || decide (l.out > 8) then (shZ, false) else (⟨l.out, 1, 1⟩, true) := by simp [outOf, h4]
        refine z_go ?_
        apply Sym.cond
        · rfl
        · intro h
          rw [ho, if_pos (by simpa using h)]
          refine z_go ?_
          with_reducible first | apply Fin.rt | apply Fin.nx
          exact .cons (.cellA inferInstance rfl rfl rfl (Nat.le_of_ble_eq_true rfl) (.of (.of rfl))) (.cons (.tmp rfl (.of (.of rfl))) .nil)
        · intro h
          rw [ho, if_neg (by simpa using h)]
          refine z_go ?_
          with_reducible first | apply Fin.rt | apply Fin.nx
          exact .cons (.cellA inferInstance rfl rfl rfl (Nat.le_of_ble_eq_true rfl) (.of (.of rfl))) (.cons (.tmp rfl (.of (.of rfl))) .nil)
theorem fnRW (s : Sh) (l : Ly) : Fn1 Try.prog 62 [shV s, lyV l] (.i (wOf s l)) := by
  refine Fn1.of (rs := [.i _]) (res := [.tmp 4]) Try.call62 Try.func62 rfl Try.ntmps62 rfl (by simp) fun c hc => ?_
  refine z_go ?_
  apply Sym.cond
  · rfl
  · intro h
    have h : l.kind = 1 := by simpa using h
    rw [show wOf s l = w64 (w64 (w64 (l.out * s.c) * l.size) * l.size) by simp [wOf, h]]
    refine z_go ?_
    with_reducible first | apply Fin.rt | apply Fin.nx
    exact (.cons (.tmp rfl (.of (.of rfl))) .nil)
  · intro h1
    have h1 : ¬ l.kind = 1 := by simpa using h1
    refine z_go ?_
    apply Sym.cond
    · rfl
    · intro h
      have h : l.kind = 4 := by simpa using h
      rw [show wOf s l = w64 (l.out * shSize s) by simp [wOf, h]]
      have k1 := fnRShSize s; refine z_go ?_
      with_reducible first | apply Fin.rt | apply Fin.nx
      exact (.cons (.tmp rfl (.of (.of rfl))) .nil)
    · intro h2
      have h2 : ¬ l.kind = 4 := by simpa using h2
      rw [show wOf s l = 0 by simp [wOf, h1, h2]]
      refine z_go ?_
      with_reducible first | apply Fin.rt | apply Fin.nx
      exact (.cons (.tmp rfl (.of (.of rfl))) .nil)
theorem fnRP (s t : Sh) (l : Ly) : Fn1 Try.prog 63 [shV s, shV t, lyV l] (.i (pOf s t l)) := by
  refine Fn1.of (rs := [.i _]) (res := [.tmp 6]) Try.call63 Try.func63 rfl Try.ntmps63 rfl (by simp) fun c hc => ?_
  refine z_go ?_
  apply Sym.cond
  · rfl
  · intro h
    have h : l.kind = 1 := by simpa using h
    rw [show pOf s t l = w64 (w64 (wOf s l * t.h) * t.w) by simp [pOf, h]]
    have k1 := fnRW s l; refine z_go ?_
    with_reducible first | apply Fin.rt | apply Fin.nx
    exact (.cons (.tmp rfl (.of (.of rfl))) .nil)
  · intro h1
    have h1 : ¬ l.kind = 1 := by simpa using h1
    refine z_go ?_
    apply Sym.cond
    · rfl
    · intro h
      have h : l.kind = 4 := by simpa using h
      rw [show pOf s t l = wOf s l by simp [pOf, h]]
      have k1 := fnRW s l; refine z_go ?_
      with_reducible first | apply Fin.rt | apply Fin.nx
      exact (.cons (.tmp rfl (.of (.of rfl))) .nil)
    · intro h2
      have h2 : ¬ l.kind = 4 := by simpa using h2
      refine z_go ?_
      apply Sym.cond
      · rfl
      · intro h
        have h : l.kind = 2 := by simpa using h
        rw [show pOf s t l = shSize s by simp [pOf, h]]
        have k1 := fnRShSize s; refine z_go ?_
        with_reducible first | apply Fin.rt | apply Fin.nx
        exact (.cons (.tmp rfl (.of (.of rfl))) .nil)
      · intro h3
        have h3 : ¬ l.kind = 2 := by simpa using h3
        rw [show pOf s t l = 0 by simp [pOf, h1, h2, h3]]
        refine z_go ?_
        with_reducible first | apply Fin.rt | apply Fin.nx
        exact (.cons (.tmp rfl (.of (.of rfl))) .nil)
end Go.Proofs.Ytblabchnpkofgaa
