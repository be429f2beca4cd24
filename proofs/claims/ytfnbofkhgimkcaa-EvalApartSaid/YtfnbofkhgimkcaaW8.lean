/- Layer 13's laws: the walks of EvalExact and EvalSeeds. -/
import Derived.Test.YtfnbofkhgimkcaaW7
set_option linter.unusedSimpArgs false
set_option linter.unusedVariables false
namespace Go.Proofs.Ytfnbofkhgimkcaa
open Go.RowKit Go.Sy
theorem line_ok {n : Nt} {who s k : Int} {xs ws : List Int} (h : (lineT n who s k xs ws).2 = true) : stOk n k ∧ (xs.length : Int) = inT n k ∧ (ws.length : Int) = sumW (ckL n) := by
  unfold lineT at h
  split at h
  · rename_i hh
    exact ⟨hh.1.1, hh.1.2, hh.2⟩
  · cases h
theorem line_at {n : Nt} {k i : Nat} (hi : (stL n)[k]? = some i) (who s : Int) {xs ws : List Int} (hx : (xs.length : Int) = inT n k) (hw : (ws.length : Int) = sumW (ckL n)) : lineT n who s k xs ws = (sayT n s who i xs ws, true) := by
  have hk := (List.getElem?_eq_some_iff.1 hi).1
  rw [lineT, if_pos ⟨⟨⟨stL_ok hi, by omega, by omega⟩, hx⟩, hw⟩, if_neg (by omega), Int.toNat_natCast, lay_at hi]
theorem next_at {n : Nt} {k i : Nat} (hi : (stL n)[k]? = some i) (who s : Int) {a b : List Int} (ha : a.length = 2 * (gB n i).length) (hb : b.length = 2 * (gB n i).length) : nextT n who s k a b = (hvT n s who i a b, true) := by
  have hk := (List.getElem?_eq_some_iff.1 hi).1
  rw [nextT, lnM_at hi, if_pos ⟨⟨stL_ok hi, by omega, by omega⟩, by simp only; omega, by simp only; omega⟩, if_neg (by omega), Int.toNat_natCast, lay_at hi]
theorem line_shape (n : Nt) (who s s' : Int) (k : Int) (xs ws : List Int) : (lineT n who s k xs ws).2 = (lineT n who s' k xs ws).2 := by
  unfold lineT
  split
  · split <;> rfl
  · rfl
theorem inT_b (n : Nt) (st : Int) : inT n st ≤ 128 := by
  unfold inT
  split
  · have := shSize_b ((ckS n).getD (lay n st.toNat) shZ)
    omega
  · omega
theorem mod9 {a : Int} (ha : 0 ≤ a ∧ a ≤ 255) : ∃ k : Nat, a % 9 = k ∧ k ≤ 8 := ⟨(a % 9).toNat, by omega, by omega⟩
theorem great7_n {n : Nt} {ls : List (List Int)} (h : great7 n ls = false) : n.ls.length ≤ 60 := by
  unfold great7 at h
  simp at h
  omega
set_option maxHeartbeats 4000000 in
theorem EvalExact_fn (n : Nt) (s a : Int) (xs us ws vs : List Int) (ha : 0 ≤ a ∧ a ≤ 255) : Fn1 Try.prog 3 [ntV n, uV s, .x (.int .u8 a), V.list encU xs, V.list encU us, V.list encU ws, V.list encU vs] (.b true) := by
  refine Fn1.of (rs := [.b true]) (res := [.tmp 14]) Try.call3 Try.func3 rfl Try.ntmps3 rfl (by simp) fun c hc => ?_
  obtain ⟨k, hk9, _⟩ := mod9 ha
  have kg := fnGreat13 n [xs, us, ws, vs] (by simp)
  cases hg : great7 n [xs, us, ws, vs] with
  | true =>
    rw [hg] at kg
    have k1 := fnHead13; have k2 := kg; refine z_go ?_
    (with_reducible apply SymL.opr); exact z_gd; (exact MOp.orT z_ev rfl); exact rfl
    refine z_go ?_
    apply Sym.cond
    · rfl
    · intro _
      refine z_go ?_
      with_reducible first | apply Fin.rt | apply Fin.nx
      exact (.cons (.tmp rfl (.of (.of rfl))) .nil)
    · intro h
      simp at h
  | false =>
    rw [hg] at kg
    have hn := great7_n hg
    have hl := great7_len hg
    have hxl := hl xs (by simp)
    have hul := hl us (by simp)
    have hwl := hl ws (by simp)
    have hvl := hl vs (by simp)
    clear hl
    have hsl := stA_len n
    have k1 := fnHead13; have k2 := kg; have k3 := fnRGStages n (by omega); refine z_go ?_
    rw [hk9]
    apply Sym.cond
    · rfl
    · intro _
      refine z_go ?_
      with_reducible first | apply Fin.rt | apply Fin.nx
      exact (.cons (.tmp rfl (.of (.of rfl))) .nil)
    · intro h
      have hkl : k < (stL n).length := by
        simp at h
        omega
      clear k1 k2 k3
      have q1 := fnLine n 0 s k xs ws (by omega)
      have q2 := fnLine n 1 s k us vs (by omega)
      obtain ⟨i, hi⟩ : ∃ i, (stL n)[k]? = some i := ⟨_, List.getElem?_eq_getElem hkl⟩
      have b1 := inT_b n ((k + 1 : Nat) : Int)
      by_cases hAB : (lineT n 0 s k xs ws).2 = true ∧ (lineT n 1 s k us vs).2 = true
      · obtain ⟨_, c1, c2⟩ := line_ok hAB.1
        obtain ⟨_, c3, c4⟩ := line_ok hAB.2
        obtain ⟨v1, v2⟩ := hv_exact hi s c1 (u := us) (by omega) c2 (v := vs) (by omega)
        have f1 := hv_fit hi s 0 (sayT n s 0 i xs ws) (sayT n s 1 i us vs)
        have l1 := sayT_len n s 0 i xs ws
        have l2 := sayT_len n s 1 i us vs
        have q3 := fnNext n 0 s k (sayT n s 0 i xs ws) (sayT n s 1 i us vs) (by omega)
        have q4 := fnNext n 1 s k (sayT n s 1 i us vs) (sayT n s 0 i xs ws) (by omega)
        rw [line_at hi 0 s c1 c2] at q1
        rw [line_at hi 1 s c3 c4] at q2
        rw [next_at hi 0 s l1 l2] at q3
        rw [next_at hi 1 s l2 l1] at q4
        dsimp only at q1 q2 q3 q4
        have q5 := fnThrough n k i (addL xs us) (addL ws vs) (by omega) hi
        rw [thrT, ← v1] at q5
        clear v1
        generalize hvT n s 0 i (sayT n s 0 i xs ws) (sayT n s 1 i us vs) = C at *
        generalize hvT n s 1 i (sayT n s 1 i us vs) (sayT n s 0 i xs ws) = C' at *
        have k1 := q1; have k2 := q2; refine z_go ?_
        apply Sym.cond
        · rfl
        · intro h
          simp at h
        · intro _
          have k1 := q3; have k2 := q4; have k3 := q5; have k4 := fnAddU C C' (by omega) (by omega); have k5 := fnAddU xs us (by omega) (by omega); have k6 := fnAddU ws vs (by omega) (by omega); have k7 := fnSameU (addL C C') (addL C C') (by rw [addL_len v2]; omega); refine z_go ?_
          with_reducible first | apply Fin.rt | apply Fin.nx
          refine .cons (.tmp rfl (.of (.of ?_))) .nil
          first | exact rfl | simp [D.toV, v2]
      · have k1 := q1; have k2 := q2; refine z_go ?_
        apply Sym.cond
        · rfl
        · intro _
          refine z_go ?_
          with_reducible first | apply Fin.rt | apply Fin.nx
          exact (.cons (.tmp rfl (.of (.of rfl))) .nil)
        · intro h
          exfalso
          simp at h
          exact hAB h
end Go.Proofs.Ytfnbofkhgimkcaa
