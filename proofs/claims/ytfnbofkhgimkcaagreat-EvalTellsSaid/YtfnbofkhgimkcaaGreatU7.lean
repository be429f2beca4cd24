/- Layer 7's laws: the walks of PlainZero and PlainSquare. -/
import Derived.Test.YtfnbofkhgimkcaaGreatU6
set_option linter.unusedSimpArgs false
set_option linter.unusedVariables false
namespace Go.Proofs.YtfnbofkhgimkcaaGreat
open Go.RowKit Go.Sy
abbrev MM : Int := 18446744073709551616
theorem gx_0 (m : Nat) (i : Int) : gx (List.replicate m 0) i = 0 := by
  unfold gx
  rw [List.getD_eq_getElem?_getD, List.getElem?_replicate]
  split <;> rfl
theorem foldl_0 {α : Type} (f : Int → α → Int) : ∀ (l : List α), (∀ a ∈ l, f 0 a = 0) → l.foldl f 0 = 0
  | [], _ => rfl
  | a :: l, h => by
    rw [List.foldl_cons, h a List.mem_cons_self]
    exact foldl_0 f l fun b hb => h b (List.mem_cons_of_mem _ hb)
theorem uw_0 : uw 0 = 0 := by rw [uw_mod]; rfl
theorem num_zx (ts : List Tm) (ps : List Int) (m : Nat) (ws : List Int) : numT ts ps (List.replicate m 0) ws = 0 := by
  unfold numT
  rw [foldl_0 (nStep _ ws) ts fun t _ => by unfold nStep; rw [gx_0, Int.zero_mul, uw_0, Int.zero_add, uw_0]]
  exact foldl_0 _ _ fun v _ => by unfold pStep; rw [gx_0, Int.add_zero, uw_0]
theorem num_zw (ts : List Tm) (m : Nat) (xs : List Int) (h : ∀ t ∈ ts, 0 ≤ t.w) : numT ts [] xs (List.replicate m 0) = 0 := by
  unfold numT
  rw [foldl_0 (nStep xs _) ts fun t ht => by
    have := h t ht
    unfold nStep
    rw [if_neg (by omega), gx_0, Int.mul_zero, uw_0, Int.add_zero, uw_0]]
  rfl
theorem laT_bad {n : Nt} {i : Int} (h : tOk n i = false) (xs ws : List Int) : laT n i xs ws = ([], false) := by simp [laT, h]
/-- what fits hangs on the lengths alone -/
theorem laT_shape (n : Nt) (i : Int) (xs ws xs' ws' : List Int) (h1 : xs.length = xs'.length) (h2 : ws.length = ws'.length) : (laT n i xs ws).2 = (laT n i xs' ws').2 ∧ (laT n i xs ws).1.length = (laT n i xs' ws').1.length := by
  unfold laT
  split
  · split
    · unfold laX
      rw [h1, h2]
      split <;> simp
    · simp
  · simp
theorem laT_get {n : Nt} {i : Int} {xs ws : List Int} {q : Nat} {v : Int} (h : (laT n i xs ws).1[q]? = some v) : v = numT (tmT n i q) (ptT n i q) xs ws := by
  unfold laT at h
  split at h
  · split at h
    · unfold laX at h
      split at h
      · simp only [List.getElem?_map, Option.map_eq_some_iff] at h
        obtain ⟨a, h1, h2⟩ := h
        rw [List.getElem?_eq_some_iff] at h1
        obtain ⟨h3, h4⟩ := h1
        simp at h4
        rw [← h2, ← h4]
      · simp at h
    · simp at h
  · simp at h
theorem laT_zx (n : Nt) (i : Int) (m : Nat) (ws : List Int) {q : Nat} {v : Int} (h : (laT n i (List.replicate m 0) ws).1[q]? = some v) : v = 0 := by
  rw [laT_get h, num_zx]
theorem laT_zw {n : Nt} {k : Nat} {el : Ly} (hel : n.ls[k]? = some el) (hk : el.kind = 1 ∨ el.kind = 4) (m : Nat) (xs : List Int) {q : Nat} {v : Int} (h : (laT n k xs (List.replicate m 0)).1[q]? = some v) : v = 0 := by
  by_cases hok : tOk n k = true
  · obtain ⟨j, el', cur, hj, hE, hel', g1, g2, g3, g4, g5, g6, g7, g8⟩ := tOk_at hok
    obtain rfl : k = j := by omega
    rw [hel] at hel'
    injection hel' with hel'
    subst hel'
    have hq : (q : Int) < shSize (outOf cur el).1 := by
      have hz := shSize_b (outOf cur el).1
      rw [laT_ok hok g5] at h
      unfold laX at h
      split at h
      · have := (List.getElem?_eq_some_iff.1 h).1
        simp at this
        omega
      · simp at h
    obtain ⟨w1, w2, w3, w4⟩ := out_pos g2 g3 g4
    have hw0 : wOf cur el ≠ 0 := fun h => by
      have := w1.1 h
      omega
    obtain ⟨t1, t2, t3⟩ := tm_ok hok g2 g3 g4 g5 g8 (p := (q : Int)) ⟨by omega, hq⟩
    obtain ⟨p1, p2⟩ := pt_ok hok g2 g3 g5 g8 (q : Int)
    rw [laT_get h, p2 (by omega)]
    exact num_zw _ _ _ fun t ht => (t3 hw0 t ht).1
  · rw [Bool.not_eq_true] at hok
    rw [laT_bad hok] at h
    simp at h
theorem great7_len {n : Nt} {ls : List (List Int)} (h : great7 n ls = false) : ∀ l ∈ ls, l.length ≤ 3000 := by
  unfold great7 at h
  rw [Bool.or_eq_false_iff] at h
  intro l hl
  have := List.any_eq_false.1 h.1 l hl
  simpa using this
/-! ### Squares -/
abbrev sqL (xs : List Int) : List Int := xs.map fun x => uw (x * x)
theorem laT_sq {n : Nt} {k : Nat} {el : Ly} (hel : n.ls[k]? = some el) (hk : el.kind = 2) (xs ws : List Int) : (laT n k xs ws).2 = true → (laT n k xs ws).1 = sqL xs := by
  intro h
  by_cases hok : tOk n k = true
  · obtain ⟨j, el', cur, hj, hE, hel', g1, g2, g3, g4, g5, g6, g7, g8⟩ := tOk_at hok
    obtain rfl : k = j := by omega
    rw [hel] at hel'
    injection hel' with hel'
    subst hel'
    have eo : (outOf cur el).1 = cur := by rw [fits2 hk]
    rw [laT_ok hok g5] at h ⊢
    unfold laX at h ⊢
    split at h
    · rename_i hv
      rw [if_pos hv]
      simp only at hv ⊢
      rw [eo, ← hv.1, Int.toNat_natCast]
      apply List.ext_getElem
      · simp
      · intro q h1 h2
        have hq : q < xs.length := by simpa using h1
        simp only [List.getElem_map, List.getElem_range]
        obtain ⟨p1, p2⟩ := pt_ok hok g2 g3 g5 g8 (q : Int)
        have ht : tmT n k q = [⟨q, -1⟩] := by
          rw [tmT_ok hok g5]
          unfold tmX
          rw [if_pos ⟨by omega, by simp only; rw [eo]; omega⟩]
          simp only
          rw [if_neg (by omega), if_neg (by omega), if_pos hk]
        rw [p2 (by omega), ht]
        show uw (0 + uw (gx xs q * (if (-1 : Int) < 0 then gx xs q else gx ws (-1)))) = _
        rw [if_pos (by omega), uw_uw]
        have hx : gx xs (q : Int) = xs[q] := by
          unfold gx
          rw [List.getD_eq_getElem?_getD, Int.toNat_natCast, List.getElem?_eq_getElem hq]
          rfl
        rw [hx]
    · cases h
  · rw [Bool.not_eq_true] at hok
    rw [laT_bad hok] at h
    cases h
theorem laT_no {n : Nt} {i : Int} {xs ws : List Int} (h : (laT n i xs ws).2 = false) : (laT n i xs ws).1 = [] := by
  unfold laT at h ⊢
  split at h
  · rename_i h1
    rw [if_pos h1]
    split at h
    · rename_i x hx
      unfold laX at h ⊢
      split at h
      · cases h
      · rename_i h2
        rw [if_neg h2]
    · rfl
  · rename_i h1
    rw [if_neg h1]
theorem uw_mul (a b : Int) : uw (uw a * uw b) = uw (a * b) := by
  rw [uw_mod, uw_mod, uw_mod, uw_mod, ← Int.mul_emod]
theorem sq_mul (xs : List Int) : sqL xs = mulL xs xs := by
  induction xs with
  | nil => rfl
  | cons x xs ih =>
    unfold mulL at ih ⊢
    rw [List.zipWith_cons_cons, ← ih]
    rfl
theorem mul4 (a b : Int) : a * b * (a * b) = a * a * (b * b) := by
  rw [Int.mul_assoc, Int.mul_left_comm b, ← Int.mul_assoc]
theorem sq_scale (k : Int) (xs : List Int) : sqL (scaleL k xs) = scaleL (uw (k * k)) (sqL xs) := by
  simp only [sqL, scaleL, List.map_map]
  apply List.map_congr_left
  intro x _
  simp only [Function.comp]
  rw [uw_mul, uw_mul, mul4]
theorem sq_neg (xs : List Int) : sqL (scaleL 18446744073709551615 xs) = sqL xs := by
  simp only [sqL, scaleL, List.map_map]
  apply List.map_congr_left
  intro x _
  simp only [Function.comp]
  rw [uw_mul, mul4, uw_mod, uw_mod]
  generalize x * x = s
  omega
end Go.Proofs.YtfnbofkhgimkcaaGreat
