/- Layer 6: a Conv's terms, a Dense's, a Pool's parts. -/
import Derived.Test.YtblabchnpkofgaaT2
set_option linter.unusedSimpArgs false
set_option linter.unusedVariables false
namespace Go.Proofs.Ytblabchnpkofgaa
open Go.RowKit Go.Sy
theorem of_in {s : Sh} {i : Int} (hs : shRight s = true) (h : (shOf s i).2 = true) : inS s (shOf s i).1.1 (shOf s i).1.2.1 (shOf s i).1.2.2 = true ∧ pos s (shOf s i).1.1 (shOf s i).1.2.1 (shOf s i).1.2.2 = i ∧ (0 ≤ i ∧ i < shSize s) := by
  have hz : shSize s = s.c * s.h * s.w := by simp [shSize, hs]
  obtain ⟨b1, b2, b3, b4⟩ := shRight_iff.1 hs
  by_cases hi : 0 ≤ i ∧ i < shSize s
  · rw [show shOf s i = ((i / s.w / s.h, i / s.w % s.h, i % s.w), true) from if_pos hi]
    simp only
    have d1 : i / s.w < s.c * s.h := Int.ediv_lt_of_lt_mul (by omega) (by omega)
    have d0 : 0 ≤ i / s.w := Int.ediv_nonneg hi.1 (by omega)
    have d2 : i / s.w / s.h < s.c := Int.ediv_lt_of_lt_mul (by omega) d1
    have d3 : 0 ≤ i / s.w / s.h := Int.ediv_nonneg d0 (by omega)
    have m1 := Int.emod_nonneg (i / s.w) (b := s.h) (by omega)
    have m2 := Int.emod_lt_of_pos (i / s.w) (b := s.h) (by omega)
    have m3 := Int.emod_nonneg i (b := s.w) (by omega)
    have m4 := Int.emod_lt_of_pos i (b := s.w) (by omega)
    refine ⟨inS_iff.2 ⟨⟨d3, d2⟩, ⟨m1, m2⟩, ⟨m3, m4⟩⟩, ?_, hi⟩
    unfold pos
    rw [Int.emod_add_mul_ediv, Int.emod_add_mul_ediv]
  · rw [show shOf s i = ((0, 0, 0), false) from if_neg hi] at h
    cases h
theorem conv_fit {a b : Sh} {out size step : Int} (ha : shRight a = true) (h : shConv a out size step = (b, true)) : shRight b = true ∧ b.c = out ∧ (1 ≤ size ∧ size ≤ 12) ∧ (1 ≤ step ∧ step ≤ 12) ∧ (∀ y, 0 ≤ y → y < b.h → 0 ≤ y * step ∧ y * step + size ≤ a.h) ∧ (∀ x, 0 ≤ x → x < b.w → 0 ≤ x * step ∧ x * step + size ≤ a.w) := by
  obtain ⟨a1, a2, a3, a4⟩ := shRight_iff.1 ha
  have h0 := h
  unfold shConv at h0
  obtain ⟨h2, h3⟩ := shSized_t (s := a) (t := ⟨out, conv1 size step a.h, conv1 size step a.w⟩) (by rw [h0])
  rw [h0] at h3
  simp only at h3
  subst h3
  have hb := shRight_iff.1 h2
  simp only at hb
  have hh : 1 ≤ size ∧ size ≤ a.h ∧ 1 ≤ step ∧ step ≤ 12 := by
    by_cases hh : 1 ≤ size ∧ size ≤ a.h ∧ 1 ≤ step ∧ step ≤ 12
    · exact hh
    · have := conv1_0 hh
      omega
  have hw : 1 ≤ size ∧ size ≤ a.w ∧ 1 ≤ step ∧ step ≤ 12 := by
    by_cases hh : 1 ≤ size ∧ size ≤ a.w ∧ 1 ≤ step ∧ step ≤ 12
    · exact hh
    · have := conv1_0 hh
      omega
  have key : ∀ n y : Int, size ≤ n → 0 ≤ y → y < (n - size) / step + 1 → 0 ≤ y * step ∧ y * step + size ≤ n := by
    intro n y hn hy hlt
    have e1 : y * step ≤ (n - size) / step * step := Int.mul_le_mul_of_nonneg_right (by omega) (by omega)
    have e2 : (n - size) / step * step ≤ n - size := Int.ediv_mul_le _ (by omega)
    have e3 := Int.mul_nonneg hy (show 0 ≤ step by omega)
    omega
  refine ⟨h2, rfl, by omega, by omega, ?_, ?_⟩
  · intro y h1 h2
    simp only at h2
    rw [conv1_1 hh] at h2
    exact key _ _ hh.2.1 h1 h2
  · intro y h1 h2
    simp only at h2
    rw [conv1_1 hw] at h2
    exact key _ _ hw.2.1 h1 h2
def cvRows (a : Sh) (z : Nat) (wt o y0 x0 : Int) (m : Nat) : List Tm := (List.range m).flatMap fun c : Nat => (List.range (z * z)).map (cvTm a z wt o (c : Int) y0 x0)
theorem cvRows_len (a : Sh) (z : Nat) (wt o y0 x0 : Int) (m : Nat) : (cvRows a z wt o y0 x0 m).length = m * (z * z) := by
  unfold cvRows
  induction m with
  | zero => simp
  | succ m ih =>
    rw [List.range_succ, List.flatMap_append, List.length_append, ih, Nat.add_mul]
    simp
theorem cvRows_succ (a : Sh) (z : Nat) (wt o y0 x0 : Int) (m : Nat) : cvRows a z wt o y0 x0 (m + 1) = cvRows a z wt o y0 x0 m ++ (List.range (z * z)).map (cvTm a z wt o m y0 x0) := by
  unfold cvRows
  rw [List.range_succ, List.flatMap_append]
  simp
/-- a Conv's terms -/
def cvT (a b : Sh) (l : Ly) (wt i : Int) : List Tm := if (shOf b i).2 then cvRows a l.size.toNat wt (shOf b i).1.1 ((shOf b i).1.2.1 * l.step) ((shOf b i).1.2.2 * l.step) a.c.toNat else []
set_option maxHeartbeats 2000000 in
theorem fnLkConv (l : Ly) (a b : Sh) (wt i : Int) (ha : shRight a = true) (hb : shConv a l.out l.size l.step = (b, true)) (hw : 0 ≤ wt ∧ wt ≤ 512) : Fn1 Try.prog 68 [lookV l a b wt, .i i] (V.list encTm (cvT a b l wt i)) := by
  refine Fn1.of (rs := [V.list encTm _]) (res := [.tmp 4]) Try.call68 Try.func68 rfl Try.ntmps68 rfl (by simp) fun c hc => ?_
  obtain ⟨c1, c2, c3, c4, c5, c6⟩ := conv_fit ha hb
  obtain ⟨a1, a2, a3, a4⟩ := shRight_iff.1 ha
  obtain ⟨d1, d2, d3, d4⟩ := shRight_iff.1 c1
  have k1 := fnShOf b i; refine z_go ?_
  apply Sym.cond
  · rfl
  · intro h
    have h : (shOf b i).2 = false := by simpa using h
    rw [show cvT a b l wt i = [] by simp [cvT, h]]
    refine z_go ?_
    with_reducible first | apply Fin.rt | apply Fin.nx
    exact .cons (.tmp rfl (.of (.mk rfl z_vle))) .nil
  · intro h
    have h : (shOf b i).2 = true := by simpa using h
    obtain ⟨hin, hpos, hi⟩ := of_in c1 h
    obtain ⟨i1, i2, i3⟩ := inS_iff.1 hin
    generalize ho : (shOf b i).1.1 = o at *
    generalize hy : (shOf b i).1.2.1 = y at *
    generalize hx : (shOf b i).1.2.2 = x at *
    obtain ⟨y, rfl⟩ : ∃ k : Nat, y = k := ⟨y.toNat, by omega⟩
    obtain ⟨x, rfl⟩ : ∃ k : Nat, x = k := ⟨x.toNat, by omega⟩
    obtain ⟨z, hz⟩ : ∃ k : Nat, l.size = k := ⟨l.size.toNat, by omega⟩
    obtain ⟨st, hst⟩ : ∃ k : Nat, l.step = k := ⟨l.step.toNat, by omega⟩
    obtain ⟨m, hm⟩ : ∃ k : Nat, a.c = k := ⟨a.c.toNat, by omega⟩
    have e5 := c5 y (by omega) (by omega)
    have e6 := c6 x (by omega) (by omega)
    have kt := fnTimes y x st (by omega) (by omega) (by omega)
    rw [← hst] at kt
    have hyy : y * st + z ≤ 12 := by
      have : ((y * st : Nat) : Int) = (y : Int) * st := by simp
      rw [hst] at e5
      omega
    have hxx : x * st + z ≤ 12 := by
      have : ((x * st : Nat) : Int) = (x : Int) * st := by simp
      rw [hst] at e6
      omega
    have hz144 : z * z ≤ 144 := Nat.mul_le_mul (show z ≤ 12 by omega) (show z ≤ 12 by omega)
    rw [show cvT a b l wt i = cvRows a z wt o ((y * st : Nat) : Int) ((x * st : Nat) : Int) m by
      unfold cvT
      rw [if_pos h, ho, hy, hx, hz, hst, hm]
      simp]
    refine z_go ?_
    refine Sym.weak (Le.cellRow 2 0 58 2 rfl rfl rfl z_nrm) ?_
    refine Sym.loop (fun k s => ∃ j : Nat, j ≤ m ∧ k = m - j ∧ s = ⟨[(25, true, .p (.i j)), (24, true, .p (.i a.c)), (9, true, .ptr 2 0), (7, true, .p (.i x)), (6, true, .p (.i y)), (5, true, .ptr 1 0), (2, true, .ptr 0 0)], [some (lookBox l a b wt), some (iBox o), some (tmCell 3 (cvRows a z wt o ((y * st : Nat) : Int) ((x * st : Nat) : Int) j).length), some (tmRow (cvRows a z wt o ((y * st : Nat) : Int) ((x * st : Nat) : Int) j))]⟩) m ⟨_, ⟨0, Nat.zero_le _, by simp, rfl⟩, z_wkt⟩ ?_
    rintro k s ⟨j, hj, rfl, rfl⟩
    refine z_go ?_
    apply Sym.cond
    · rfl
    · intro hlt
      simp only [decide_eq_true_eq] at hlt
      have kw := fnWinC l a b wt o j z (y * st) (x * st) (cvRows a z wt o ((y * st : Nat) : Int) ((x * st : Nat) : Int) j) (by omega) hz (by omega) (by omega) (by omega) hw hyy hxx (by
        rw [cvRows_len]
        have : j * (z * z) ≤ 8 * 144 := Nat.mul_le_mul (by omega) hz144
        omega)
      rw [← hz, ← cvRows_succ] at kw
      refine z_go ?_
      (apply Sym.drawL 10 (by kernel_rfl) (by kernel_rfl))
      have k1 := kt; refine z_mt ?_
      ((with_reducible apply SymL.callM [2, 0, 4, 1, 3] kw); exact z_ren; exact z_evf; (refine ⟨?_, ?_, ?_, ?_, ?_, trivial⟩ <;> first | exact rfl | (simp only [Box.ren, D.enc, D.renL_p]; exact rfl)); decide; exact rfl; exact rfl; exact z_wrB; exact z_dd; exact z_ren; (simp only [Hp.clean, D.clean, D.cleanL, D.cleanL_p, bne, Nat.reduceBEq, Bool.not_true, Bool.not_false, cond_true, cond_false]; exact z_ren); exact z_cln)
      refine z_go ?_
      refine ⟨_, ?_, _, ⟨j + 1, by omega, rfl, rfl⟩, z_wkt⟩
      omega
    · intro hge
      simp only [decide_eq_false_iff_not] at hge
      obtain rfl : j = m := by omega
      refine z_go ?_
      with_reducible first | apply Fin.rt | apply Fin.nx
      exact .cons (.tmp rfl (DVr.list encTm _ rfl (fun q => rfl) rfl rfl)) .nil
end Go.Proofs.Ytblabchnpkofgaa
