/- Layer 13's laws: the walks of EvalSeeds and EvalFirst. -/
import Derived.Test.YtfnbofkhgimkcaaW8
set_option linter.unusedSimpArgs false
set_option linter.unusedVariables false
namespace Go.Proofs.Ytfnbofkhgimkcaa
open Go.RowKit Go.Sy
theorem say_seed {n : Nt} {k i : Nat} (hi : (stL n)[k]? = some i) {s o who : Int} (hs : 0 ≤ s ∧ s < 18446744073709551616) (ho : 0 ≤ o ∧ o < 18446744073709551616) (xs ws : List Int) : (sayT n s who i xs ws == sayT n o who i xs ws) = (s == o) := by
  by_cases e : s = o
  · subst e
    simp
  · have hE := stL_ok hi
    have hpos := (stL_mem hi).2
    have hgl := ckP_nn hE (stL_mem hi).1
    have hg : (gB n i)[0]? = some ((gB n i)[0]'(by omega)) := List.getElem?_eq_getElem (by omega)
    generalize (gB n i)[0]'(by omega) = g at hg
    have h1 := (sayN_get (s := s) (who := who) (xs := xs) (ws := ws) (fst := (gO n i : Nat)) hg _ (show 0 < (gB n i).length by omega) (Nat.le_refl _)).1
    have h2 := (sayN_get (s := o) (who := who) (xs := xs) (ws := ws) (fst := (gO n i : Nat)) hg _ (show 0 < (gB n i).length by omega) (Nat.le_refl _)).1
    rw [show (s == o) = false by simpa using e, beq_eq_false_iff_ne]
    intro hh
    unfold sayT at hh
    rw [hh, h2] at h1
    injection h1 with h1
    simp only [opnT] at h1
    apply e
    generalize gx xs g.x = x at h1
    have key : ∀ a b : Int, 0 ≤ a ∧ a < 18446744073709551616 → 0 ≤ b ∧ b < 18446744073709551616 → uw (x - b) = uw (x - a) → a = b := fun a b ha hb h => by
      simp only [uw_mod] at h
      omega
    by_cases hw : who = 0
    · simp only [halfT, if_pos hw] at h1
      exact numS_inj hs ho (key _ _ (numS_in _ _) (numS_in _ _) h1)
    · simp only [halfT, if_neg hw] at h1
      exact numS_inj hs ho (key _ _ (numS_in _ _) (numS_in _ _) h1)
set_option maxRecDepth 100000 in
set_option maxHeartbeats 8000000 in
theorem EvalSeeds_fn (n : Nt) (s o a : Int) (xs us ws vs : List Int) (hs : 0 ≤ s ∧ s < 18446744073709551616) (ho : 0 ≤ o ∧ o < 18446744073709551616) (ha : 0 ≤ a ∧ a ≤ 255) (_ : uOk xs) (_ : uOk us) (_ : uOk ws) (_ : uOk vs) : Fn1 Try.prog 8 [ntV n, uV s, uV o, .x (.int .u8 a), V.list encU xs, V.list encU us, V.list encU ws, V.list encU vs] (.b true) := by
  refine Fn1.of (rs := [.b true]) (res := [.tmp 16]) Try.call8 Try.func8 rfl Try.ntmps8 rfl (by simp) fun c hc => ?_
  obtain ⟨k, hk9, _⟩ := mod9 ha
  have kg := fnGreat13 n [xs, us, ws, vs] (by simp)
  have k1 := fnHead13; have k2 := kg; refine z_go ?_
  apply Sym.cond
  · rfl
  · intro _
    refine z_go ?_
    with_reducible first | apply Fin.rt | apply Fin.nx
    exact (.cons (.tmp rfl (.of (.of rfl))) .nil)
  · intro hg
    have hn := great7_n hg
    have hl := great7_len hg
    have hxl := hl xs (by simp)
    have hul := hl us (by simp)
    have hwl := hl ws (by simp)
    have hvl := hl vs (by simp)
    clear hl
    have hsl := stA_len n
    have q1 := fnLine n 0 s k xs ws (by omega)
    have q2 := fnLine n 1 s k us vs (by omega)
    have q3 := fnLine n 0 o k xs ws (by omega)
    have q4 := fnLine n 1 o k us vs (by omega)
    rw [hk9]
    have s1 := line_shape n 0 s o k xs ws
    have s2 := line_shape n 1 s o k us vs
    by_cases hAB : ((lineT n 0 o k xs ws).2 = true ∧ (lineT n 1 o k us vs).2 = true) ∧ k < (stL n).length
    · obtain ⟨⟨hA, hB⟩, hkl⟩ := hAB
      obtain ⟨i, hi⟩ : ∃ i, (stL n)[k]? = some i := ⟨_, List.getElem?_eq_getElem hkl⟩
      have b1 := inT_b n ((k + 1 : Nat) : Int)
      obtain ⟨_, c1, c2⟩ := line_ok hA
      obtain ⟨_, c3, c4⟩ := line_ok hB
      obtain ⟨v1, v2⟩ := hv_exact hi s c1 (u := us) (by omega) c2 (v := vs) (by omega)
      obtain ⟨v3, v4⟩ := hv_exact hi o c1 (u := us) (by omega) c2 (v := vs) (by omega)
      have f1 := hv_fit hi s 0 (sayT n s 0 i xs ws) (sayT n s 1 i us vs)
      have f2 := hv_fit hi o 0 (sayT n o 0 i xs ws) (sayT n o 1 i us vs)
      have l1 := sayT_len n s 0 i xs ws
      have l2 := sayT_len n s 1 i us vs
      have l3 := sayT_len n o 0 i xs ws
      have l4 := sayT_len n o 1 i us vs
      have hga := gA_512 n i (stL_ok hi) (stL_mem hi).1
      have r1 := fnNext n 0 s k (sayT n s 0 i xs ws) (sayT n s 1 i us vs) (by omega)
      have r2 := fnNext n 1 s k (sayT n s 1 i us vs) (sayT n s 0 i xs ws) (by omega)
      have r3 := fnNext n 0 o k (sayT n o 0 i xs ws) (sayT n o 1 i us vs) (by omega)
      have r4 := fnNext n 1 o k (sayT n o 1 i us vs) (sayT n o 0 i xs ws) (by omega)
      have d1 := fnSameU (sayT n s 0 i xs ws) (sayT n o 0 i xs ws) (by omega)
      have d2 := fnSameU (sayT n s 1 i us vs) (sayT n o 1 i us vs) (by omega)
      rw [say_seed hi hs ho] at d1 d2
      rw [line_at hi 0 s c1 c2] at q1
      rw [line_at hi 1 s c3 c4] at q2
      rw [line_at hi 0 o c1 c2] at q3
      rw [line_at hi 1 o c3 c4] at q4
      rw [next_at hi 0 s l1 l2] at r1
      rw [next_at hi 1 s l2 l1] at r2
      rw [next_at hi 0 o l3 l4] at r3
      rw [next_at hi 1 o l4 l3] at r4
      dsimp only at q1 q2 q3 q4 r1 r2 r3 r4
      rw [← v3] at v1
      clear v3
      generalize hvT n s 0 i (sayT n s 0 i xs ws) (sayT n s 1 i us vs) = C at *
      generalize hvT n s 1 i (sayT n s 1 i us vs) (sayT n s 0 i xs ws) = C' at *
      generalize hvT n o 0 i (sayT n o 0 i xs ws) (sayT n o 1 i us vs) = E at *
      generalize hvT n o 1 i (sayT n o 1 i us vs) (sayT n o 0 i xs ws) = E' at *
      generalize sayT n s 0 i xs ws = A at *
      generalize sayT n s 1 i us vs = B at *
      generalize sayT n o 0 i xs ws = A' at *
      generalize sayT n o 1 i us vs = B' at *
      clear s1 s2 hA hB
      have w1 := fnAddU C C' (by omega) (by omega)
      rw [v1] at w1
      have w2 := fnAddU E E' (by omega) (by omega)
      have w3 := fnSameU (addL E E') (addL E E') (by rw [addL_len v4]; omega)
      clear v1 v2 v4 f1 f2 l1 l2 l3 l4 hga c1 c2 c3 c4 b1
      rw [beq_self_eq_true] at w3
      generalize addL E E' = SE at *
      have k1 := q1; have k2 := q2; have k3 := q3; have k4 := q4; refine z_go ?_
      apply Sym.cond
      · rfl
      · intro h
        simp at h
      · intro _
        have k1 := fnRGStages n (by omega); refine z_go ?_
        apply Sym.cond
        · rfl
        · intro h
          exfalso
          simp at h
          omega
        · intro _
          clear k1 k2 k3 k4
          have k1 := r1; have k2 := r2; have k3 := r3; have k4 := r4; have k5 := w1; have k6 := w2; have k7 := w3; have k8 := d1; have k9 := d2; refine z_go ?_
          with_reducible first | apply Fin.rt | apply Fin.nx
          refine .cons (.tmp rfl (.of (.of ?_))) .nil
          simp [D.toV]
    · have k1 := q1; have k2 := q2; have k3 := q3; have k4 := q4; refine z_go ?_
      apply Sym.cond
      · rfl
      · intro h
        exfalso
        simp [s1, s2] at h
      · intro _
        clear k1 k2 k3 k4
        have k1 := fnRGStages n (by omega); refine z_go ?_
        apply Sym.cond
        · rfl
        · intro _
          refine z_go ?_
          with_reducible first | apply Fin.rt | apply Fin.nx
          exact (.cons (.tmp rfl (.of (.of rfl))) .nil)
        · intro h
          exfalso
          simp [s1, s2] at h
          exact hAB ⟨⟨h.1.1, h.1.2⟩, by omega⟩
end Go.Proofs.Ytfnbofkhgimkcaa
