/- Places in pictures: shape.At, Of, and the document's. -/
import Derived.Test.YtblabchnpkofgaaSd
import Derived.Test.YtblabchnpkofgaaC1
set_option linter.unusedSimpArgs false
set_option linter.unusedVariables false
namespace Go.Proofs.Ytblabchnpkofgaa
open Go.RowKit Go.Sy
/-- a place's number -/
def pos (s : Sh) (c y x : Int) : Int := x + s.w * (y + s.h * c)
def inS (s : Sh) (c y x : Int) : Bool := wi c 0 (s.c - 1) && wi y 0 (s.h - 1) && wi x 0 (s.w - 1)
def shAt (s : Sh) (c y x : Int) : Int := if shRight s && inS s c y x then pos s c y x else -1
theorem inS_iff {s : Sh} {c y x : Int} : inS s c y x = true ↔ (0 ≤ c ∧ c < s.c) ∧ (0 ≤ y ∧ y < s.h) ∧ (0 ≤ x ∧ x < s.w) := by
  simp only [inS, wi, Bool.and_eq_true, decide_eq_true_eq]
  omega
/-- the place stays in bounds -/
theorem pos_in {s : Sh} {c y x : Int} (hs : shRight s = true) (hi : inS s c y x = true) : 0 ≤ s.h * c ∧ s.h * c ≤ 84 ∧ 0 ≤ y + s.h * c ∧ y + s.h * c ≤ 95 ∧ 0 ≤ s.w * (y + s.h * c) ∧ s.w * (y + s.h * c) ≤ 1140 ∧ 0 ≤ pos s c y x ∧ pos s c y x < s.c * s.h * s.w := by
  obtain ⟨h1, h2, h3⟩ := inS_iff.1 hi
  obtain ⟨b1, b2, b3, b4⟩ := shRight_iff.1 hs
  have a1 := mulB (a := s.h) (b := c) (A := 12) (B := 7) (by omega) (by omega)
  have a2 : s.h * c ≤ s.h * (s.c - 1) := Int.mul_le_mul_of_nonneg_left (by omega) (by omega)
  have a3 : s.h * (s.c - 1) = s.c * s.h - s.h := by rw [Int.mul_sub, Int.mul_one, Int.mul_comm]
  have a4 := mulB (a := s.w) (b := y + s.h * c) (A := 12) (B := 95) (by omega) (by omega)
  have a5 : s.w * (y + s.h * c) ≤ s.w * (s.c * s.h - 1) := Int.mul_le_mul_of_nonneg_left (by omega) (by omega)
  have a6 : s.w * (s.c * s.h - 1) = s.c * s.h * s.w - s.w := by rw [Int.mul_sub, Int.mul_one, Int.mul_comm]
  unfold pos
  omega
theorem shAt_bad {s : Sh} {c y x : Int} (h : ¬ (shRight s = true ∧ inS s c y x = true)) : shAt s c y x = -1 := by
  unfold shAt
  rw [if_neg]
  simpa using h
theorem shAt_ok {s : Sh} {c y x : Int} (h1 : shRight s = true) (h2 : inS s c y x = true) : shAt s c y x = pos s c y x := by
  unfold shAt
  rw [h1, h2]
  rfl
theorem fnShAt (s : Sh) (c' y x : Int) : Fn1 Try.prog 88 [shV s, .i c', .i y, .i x] (.i (shAt s c' y x)) := by
  refine Fn1.of (rs := [.i _]) (res := [.tmp 8]) Try.call88 Try.func88 rfl Try.ntmps88 rfl (by simp) fun c hc => ?_
  have k0 := fnShRight s
  by_cases hr : shRight s = true
  · rw [hr] at k0
    obtain ⟨b1, b2, b3, b4⟩ := shRight_iff.1 hr
    have k1 := k0; have k2 := fnShWithin c' 0 (s.c - 1); have k3 := fnShWithin y 0 (s.h - 1); have k4 := fnShWithin x 0 (s.w - 1); refine z_go ?_
    apply Sym.cond
    · rfl
    · intro h
      rw [shAt_bad (by
        rintro ⟨_, hi⟩
        obtain ⟨i1, i2, i3⟩ := inS_iff.1 hi
        simp only [wi, Bool.not_true, Bool.false_or, Bool.or_eq_true, Bool.not_eq_true', Bool.and_eq_false_iff, decide_eq_false_iff_not] at h
        omega)]
      refine z_go ?_
      with_reducible first | apply Fin.rt | apply Fin.nx
      exact (.cons (.tmp rfl (.of (.of rfl))) .nil)
    · intro h
      have hi : inS s c' y x = true := by
        simp only [Bool.or_eq_false_iff, Bool.not_eq_false'] at h
        obtain ⟨⟨⟨_, i1⟩, i2⟩, i3⟩ := h
        simp only [inS, i1, i2, i3, Bool.and_self]
      obtain ⟨p1, p2, p3, p4, p5, p6, p7, p8⟩ := pos_in hr hi
      rw [shAt_ok hr hi]
      unfold pos at p7 p8 ⊢
      obtain ⟨i1, i2, i3⟩ := inS_iff.1 hi
      refine z_go ?_
      with_reducible first | apply Fin.rt | apply Fin.nx
      exact (.cons (.tmp rfl (.of (.of rfl))) .nil)
  · rw [Bool.not_eq_true] at hr
    rw [hr] at k0
    rw [shAt_bad (by rw [hr]; simp)]
    have k1 := k0; have k2 := fnShWithin c' 0 (w64 (s.c - 1)); have k3 := fnShWithin y 0 (w64 (s.h - 1)); have k4 := fnShWithin x 0 (w64 (s.w - 1)); refine z_go ?_
    apply Sym.cond
    · rfl
    · intro h
      refine z_go ?_
      with_reducible first | apply Fin.rt | apply Fin.nx
      exact (.cons (.tmp rfl (.of (.of rfl))) .nil)
    · intro h
      exact absurd h (by simp)
theorem fnRAt (s : Sh) (c' y x : Int) : Fn1 Try.prog 76 [shV s, .i c', .i y, .i x] (.i (shAt s c' y x)) := by
  refine Fn1.of (rs := [.i _]) (res := [.tmp 8]) Try.call76 Try.func76 rfl Try.ntmps76 rfl (by simp) fun c hc => ?_
  have k1 := fnRShRight s; refine z_go ?_
  apply Sym.cond
  · rfl
  · intro h
    rw [shAt_bad (by
      rintro ⟨hr, hi⟩
      obtain ⟨i1, i2, i3⟩ := inS_iff.1 hi
      simp only [hr, Bool.or_eq_true, Bool.not_true, decide_eq_true_eq, Bool.false_eq_true, false_or] at h
      omega)]
    refine z_go ?_
    with_reducible first | apply Fin.rt | apply Fin.nx
    exact (.cons (.tmp rfl (.of (.of rfl))) .nil)
  · intro h
    simp only [Bool.or_eq_false_iff, Bool.not_eq_false', decide_eq_false_iff_not] at h
    have hr : shRight s = true := by simp [h]
    have hi : inS s c' y x = true := inS_iff.2 (by omega)
    obtain ⟨p1, p2, p3, p4, p5, p6, p7, p8⟩ := pos_in hr hi
    obtain ⟨b1, b2, b3, b4⟩ := shRight_iff.1 hr
    rw [shAt_ok hr hi]
    unfold pos at p7 p8 ⊢
    have e1 : c' * s.h = s.h * c' := Int.mul_comm _ _
    have e2 : (c' * s.h + y) * s.w = s.w * (y + s.h * c') := by rw [e1, Int.mul_comm, Int.add_comm]
    obtain ⟨i1, i2, i3⟩ := inS_iff.1 hi
    refine z_go ?_
    with_reducible first | apply Fin.rt | apply Fin.nx
    rw [e2, Int.add_comm]
    exact (.cons (.tmp rfl (.of (.of rfl))) .nil)
/-- where a place is -/
def shOf (s : Sh) (i : Int) : (Int × Int × Int) × Bool := if 0 ≤ i ∧ i < shSize s then ((i / s.w / s.h, i / s.w % s.h, i % s.w), true) else ((0, 0, 0), false)
abbrev ofV (o : (Int × Int × Int) × Bool) : V := .tup [.i o.1.1, .i o.1.2.1, .i o.1.2.2, .b o.2]
theorem fnShOf (s : Sh) (i : Int) : Fn1 Try.prog 71 [shV s, .i i] (ofV (shOf s i)) := by
  refine Fn1.of (rs := [.i _, .i _, .i _, .b _]) (res := [.tmp 4, .tmp 5, .tmp 6, .tmp 7]) Try.call71 Try.func71 rfl Try.ntmps71 rfl (by simp) fun c hc => ?_
  have hz : 0 ≤ shSize s ∧ shSize s ≤ 128 := by
    unfold shSize
    split
    · rename_i h
      have := shMul h
      omega
    · omega
  have k1 := fnShSize s; have k2 := fnShWithin i 0 (shSize s - 1); refine z_go ?_
  apply Sym.cond
  · rfl
  · intro h
    have h : ¬ (0 ≤ i ∧ i < shSize s) := by
      simp only [wi, Bool.not_eq_true', Bool.and_eq_false_iff, decide_eq_false_iff_not] at h
      omega
    rw [show shOf s i = ((0, 0, 0), false) from if_neg h]
    refine z_go ?_
    with_reducible first | apply Fin.rt | apply Fin.nx
    exact .cons (.tmp rfl (.of (.of rfl))) (.cons (.tmp rfl (.of (.of rfl))) (.cons (.tmp rfl (.of (.of rfl))) (.cons (.tmp rfl (.of (.of rfl))) .nil)))
  · intro h
    have h : 0 ≤ i ∧ i < shSize s := by
      simp only [wi, Bool.not_eq_false', Bool.and_eq_true, decide_eq_true_eq] at h
      omega
    have hr : shRight s = true := by
      by_cases hr : shRight s = true
      · exact hr
      · simp [shSize, hr] at h
        omega
    obtain ⟨b1, b2, b3, b4⟩ := shRight_iff.1 hr
    rw [show shOf s i = ((i / s.w / s.h, i / s.w % s.h, i % s.w), true) from if_pos h]
    have d1 := Int.ediv_le_self (a := i) s.w (by omega)
    have d2 := Int.ediv_nonneg (a := i) (b := s.w) (by omega) (by omega)
    refine z_go ?_
    with_reducible first | apply Fin.rt | apply Fin.nx
    exact .cons (.tmp rfl (.of (.of rfl))) (.cons (.tmp rfl (.of (.of rfl))) (.cons (.tmp rfl (.of (.of rfl))) (.cons (.tmp rfl (.of (.of rfl))) .nil)))
/-! ### the document's Of: it looks -/
theorem pos_w (s : Sh) (c y : Int) : pos s c y s.w = pos s c (y + 1) 0 := by
  unfold pos
  rw [show y + 1 + s.h * c = (y + s.h * c) + 1 by omega, Int.mul_add s.w (y + s.h * c) 1, Int.mul_one]
  omega
theorem pos_h (s : Sh) (c : Int) : pos s c s.h 0 = pos s (c + 1) 0 0 := by
  unfold pos
  rw [show s.h * (c + 1) = s.h * c + s.h by rw [Int.mul_add, Int.mul_one]]
  rw [show s.h + s.h * c = 0 + (s.h * c + s.h) by omega]
theorem pos_c (s : Sh) : pos s s.c 0 0 = s.c * s.h * s.w := by
  unfold pos
  rw [Int.zero_add, Int.zero_add, Int.mul_comm, Int.mul_comm s.h]
theorem pos_of {s : Sh} {c y x : Int} (hs : shRight s = true) (hi : inS s c y x = true) : shOf s (pos s c y x) = ((c, y, x), true) := by
  obtain ⟨p1, p2, p3, p4, p5, p6, p7, p8⟩ := pos_in hs hi
  obtain ⟨i1, i2, i3⟩ := inS_iff.1 hi
  have hz : shSize s = s.c * s.h * s.w := by simp [shSize, hs]
  rw [show shOf s (pos s c y x) = ((pos s c y x / s.w / s.h, pos s c y x / s.w % s.h, pos s c y x % s.w), true) from if_pos (by omega)]
  have e1 : pos s c y x / s.w = y + s.h * c := by
    unfold pos
    rw [Int.add_mul_ediv_left _ _ (by omega), Int.ediv_eq_zero_of_lt (by omega) (by omega), Int.zero_add]
  have e2 : pos s c y x % s.w = x := by
    unfold pos
    rw [Int.add_mul_emod_self_left, Int.emod_eq_of_lt (by omega) (by omega)]
  have e3 : (y + s.h * c) / s.h = c := by rw [Int.add_mul_ediv_left _ _ (by omega), Int.ediv_eq_zero_of_lt (by omega) (by omega), Int.zero_add]
  have e4 : (y + s.h * c) % s.h = y := by rw [Int.add_mul_emod_self_left, Int.emod_eq_of_lt (by omega) (by omega)]
  rw [e1, e2, e3, e4]
theorem fnROf (s : Sh) (i : Int) : Fn1 Try.prog 48 [shV s, .i i] (ofV (shOf s i)) := by
  refine Fn1.of (rs := [.i _, .i _, .i _, .b _]) (res := [.tmp 4, .tmp 5, .tmp 6, .tmp 7]) Try.call48 Try.func48 rfl Try.ntmps48 rfl (by simp) fun c hc => ?_
  have k0 := fnRShRight s
  by_cases hr : shRight s = true
  · rw [hr] at k0
    obtain ⟨b1, b2, b3, b4⟩ := shRight_iff.1 hr
    have hz : shSize s = s.c * s.h * s.w := by simp [shSize, hr]
    refine z_go ?_
    refine Sym.loop (fun k t => ∃ j : Int, (0 ≤ j ∧ j ≤ s.c) ∧ ¬ (0 ≤ i ∧ i < pos s j 0 0) ∧ k = (s.c - j).toNat ∧ t = ⟨[(8, true, .p (.i j)), (2, true, .ptr 0 0), (1, true, .p (.i i))], [some (shBox s)]⟩) s.c.toNat ⟨_, ⟨0, by omega, by unfold pos; simp, by omega, rfl⟩, z_wkt⟩ ?_
    rintro k t ⟨j, hj, hne, rfl, rfl⟩
    have k1 := k0; refine z_go ?_
    apply Sym.cond
    · rfl
    · intro hlt
      simp only [Bool.and_true, decide_eq_true_eq] at hlt
      refine z_go ?_
      refine Sym.loop (fun k t => ∃ y : Int, (0 ≤ y ∧ y ≤ s.h) ∧ ¬ (0 ≤ i ∧ i < pos s j y 0) ∧ k = (s.h - y).toNat ∧ t = ⟨[(9, true, .p (.i y)), (8, true, .p (.i j)), (2, true, .ptr 0 0), (1, true, .p (.i i))], [some (shBox s)]⟩) s.h.toNat ⟨_, ⟨0, by omega, hne, by omega, rfl⟩, z_wkt⟩ ?_
      rintro k t ⟨y, hy, hne2, rfl, rfl⟩
      refine z_go ?_
      apply Sym.cond
      · rfl
      · intro hlt2
        simp only [decide_eq_true_eq] at hlt2
        refine z_go ?_
        refine Sym.loop (fun k t => ∃ x : Int, (0 ≤ x ∧ x ≤ s.w) ∧ ¬ (0 ≤ i ∧ i < pos s j y x) ∧ k = (s.w - x).toNat ∧ t = ⟨[(10, true, .p (.i x)), (9, true, .p (.i y)), (8, true, .p (.i j)), (2, true, .ptr 0 0), (1, true, .p (.i i))], [some (shBox s)]⟩) s.w.toNat ⟨_, ⟨0, by omega, hne2, by omega, rfl⟩, z_wkt⟩ ?_
        rintro k t ⟨x, hx, hne3, rfl, rfl⟩
        refine z_go ?_
        apply Sym.cond
        · rfl
        · intro hlt3
          simp only [decide_eq_true_eq] at hlt3
          have hi : inS s j y x = true := inS_iff.2 (by omega)
          have ka := fnRAt s j y x
          rw [shAt_ok hr hi] at ka
          have k1 := ka; refine z_go ?_
          apply Sym.cond
          · rfl
          · intro he
            have he : pos s j y x = i := by simpa using he
            rw [← he, pos_of hr hi]
            refine z_go ?_
            with_reducible first | apply Fin.rt | apply Fin.nx
            exact .cons (.tmp rfl (.of (.of rfl))) (.cons (.tmp rfl (.of (.of rfl))) (.cons (.tmp rfl (.of (.of rfl))) (.cons (.tmp rfl (.of (.of rfl))) .nil)))
          · intro he
            have he : ¬ pos s j y x = i := by simpa using he
            refine z_go ?_
            refine ⟨_, ?_, _, ⟨x + 1, by omega, ?_, rfl, rfl⟩, z_wkt⟩
            · omega
            · have : pos s j y (x + 1) = pos s j y x + 1 := by unfold pos; omega
              omega
        · intro hge
          simp only [decide_eq_false_iff_not] at hge
          obtain rfl : x = s.w := by omega
          refine z_go ?_
          refine ⟨_, ?_, _, ⟨y + 1, by omega, by rw [← pos_w]; exact hne3, rfl, rfl⟩, z_wkt⟩
          omega
      · intro hge
        simp only [decide_eq_false_iff_not] at hge
        obtain rfl : y = s.h := by omega
        refine z_go ?_
        refine ⟨_, ?_, _, ⟨j + 1, by omega, by rw [← pos_h]; exact hne2, rfl, rfl⟩, z_wkt⟩
        omega
    · intro hge
      simp only [Bool.and_true, decide_eq_false_iff_not] at hge
      obtain rfl : j = s.c := by omega
      rw [pos_c, ← hz] at hne
      rw [show shOf s i = ((0, 0, 0), false) from if_neg hne]
      refine z_go ?_
      with_reducible first | apply Fin.rt | apply Fin.nx
      exact .cons (.tmp rfl (.of (.of rfl))) (.cons (.tmp rfl (.of (.of rfl))) (.cons (.tmp rfl (.of (.of rfl))) (.cons (.tmp rfl (.of (.of rfl))) .nil)))
  · rw [Bool.not_eq_true] at hr
    rw [hr] at k0
    have hz : shSize s = 0 := by simp [shSize, hr]
    rw [show shOf s i = ((0, 0, 0), false) from if_neg (by omega)]
    refine z_go ?_
    refine Sym.loop (fun k t => k = 0 ∧ t = ⟨[(8, true, .p (.i 0)), (2, true, .ptr 0 0), (1, true, .p (.i i))], [some (shBox s)]⟩) 0 ⟨_, ⟨rfl, rfl⟩, z_wkt⟩ ?_
    rintro k t ⟨rfl, rfl⟩
    have k1 := k0; refine z_go ?_
    apply Sym.cond
    · rfl
    · intro hlt
      exact absurd hlt (by simp)
    · intro _
      refine z_go ?_
      with_reducible first | apply Fin.rt | apply Fin.nx
      exact .cons (.tmp rfl (.of (.of rfl))) (.cons (.tmp rfl (.of (.of rfl))) (.cons (.tmp rfl (.of (.of rfl))) (.cons (.tmp rfl (.of (.of rfl))) .nil)))
end Go.Proofs.Ytblabchnpkofgaa
