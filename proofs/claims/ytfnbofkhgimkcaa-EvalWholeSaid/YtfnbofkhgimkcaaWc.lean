/- Layer 13's laws: the walk of EvalWhole. -/
import Derived.Test.YtfnbofkhgimkcaaWb
set_option linter.unusedSimpArgs false
set_option linter.unusedVariables false
namespace Go.Proofs.Ytfnbofkhgimkcaa
open Go.RowKit Go.Sy
theorem addL_comm (a b : List Int) : addL a b = addL b a := by
  unfold addL
  rw [List.zipWith_comm]
  congr 1
  funext x y
  rw [Int.add_comm]
theorem line_end {n : Nt} (hE : ckE n = 0) (who s : Int) {xs ws : List Int} (hx : (xs.length : Int) = inT n ((stL n).length : Nat)) (hw : (ws.length : Int) = sumW (ckL n)) : lineT n who s ((stL n).length : Nat) xs ws = (xs, true) := by
  rw [lineT, if_pos ⟨⟨⟨hE, by omega, by omega⟩, hx⟩, hw⟩, if_pos rfl]
theorem next_end {n : Nt} (hE : ckE n = 0) (who s : Int) {a b : List Int} (ha : (a.length : Int) = inT n ((stL n).length : Nat)) (hb : (b.length : Int) = inT n ((stL n).length : Nat)) : nextT n who s ((stL n).length : Nat) a b = (addL a b, true) := by
  have hL : (lnM n ((stL n).length : Nat)).2 = inT n ((stL n).length : Nat) := by
    rw [lnM, if_pos ⟨hE, rfl⟩, inT_end hE]
  rw [nextT, if_pos ⟨⟨hE, by omega, by omega⟩, by rw [hL]; exact ha, by rw [hL]; exact hb⟩, if_pos rfl]
/-- what both parties have at a stage -/
def both (n : Nt) (X W : List Int) (k : Nat) (A B : List Int) : Prop :=
  (k ≤ (stL n).length ∧ (A.length : Int) = inT n k ∧ B.length = A.length ∧ addL A B = foldF n X W (lay n k)) ∨ (k = (stL n).length + 1 ∧ A = foldF n X W n.ls.length ∧ B = foldF n X W n.ls.length)
theorem both_step {n : Nt} (hE : ckE n = 0) (s : Int) {X ws vs : List Int} (hw : (ws.length : Int) = sumW (ckL n)) (hv : vs.length = ws.length) {k : Nat} {A B : List Int} (hk : k ≤ (stL n).length) (h : both n X (addL ws vs) k A B) :
    ∃ C D A' B', lineT n 0 s k A ws = (C, true) ∧ lineT n 1 s k B vs = (D, true) ∧ nextT n 0 s k C D = (A', true) ∧ nextT n 1 s k D C = (B', true) ∧ both n X (addL ws vs) (k + 1) A' B' := by
  rcases h with ⟨_, h1, h2, h3⟩ | ⟨h1, _⟩
  · by_cases hkl : k = (stL n).length
    · subst hkl
      have h2' : (B.length : Int) = inT n ((stL n).length : Nat) := by rw [h2]; exact h1
      refine ⟨A, B, addL A B, addL B A, line_end hE _ _ h1 hw, line_end hE _ _ h2' (by omega), next_end hE _ _ h1 h2', next_end hE _ _ h2' h1, .inr ⟨rfl, ?_, ?_⟩⟩
      · rw [h3, lay_end]
      · rw [addL_comm, h3, lay_end]
    · obtain ⟨i, hi⟩ : ∃ i, (stL n)[k]? = some i := ⟨_, List.getElem?_eq_getElem (by omega)⟩
      have h2' : (B.length : Int) = inT n k := by rw [h2]; exact h1
      obtain ⟨v1, v2⟩ := hv_exact hi s h1 h2 hw hv
      have f1 := hv_fit hi s 0 (sayT n s 0 i A ws) (sayT n s 1 i B vs)
      refine ⟨_, _, _, _, line_at hi 0 s h1 hw, line_at hi 1 s h2' (by omega), next_at hi 0 s (sayT_len _ _ _ _ _ _) (sayT_len _ _ _ _ _ _), next_at hi 1 s (sayT_len _ _ _ _ _ _) (sayT_len _ _ _ _ _ _), .inl ⟨by omega, f1, v2.symm, ?_⟩⟩
      rw [v1, h3, lay_at hi]
      exact lay_go hi (by rw [addL_len hv.symm]; exact hw)
  · omega
theorem both_len {n : Nt} {X W : List Int} {k : Nat} {A B : List Int} (hX : (foldF n X W n.ls.length).length ≤ 128) (h : both n X W k A B) : A.length ≤ 128 ∧ B.length ≤ 128 := by
  rcases h with ⟨_, h1, h2, _⟩ | ⟨_, h1, h2⟩
  · have := inT_b n k
    omega
  · rw [h1, h2]
    exact ⟨hX, hX⟩
set_option maxRecDepth 100000 in
set_option maxHeartbeats 8000000 in
theorem EvalWhole_fn (n : Nt) (s : Int) (xs us ws vs : List Int) : Fn1 Try.prog 4 [ntV n, uV s, V.list encU xs, V.list encU us, V.list encU ws, V.list encU vs] (.b true) := by
  refine Fn1.of (rs := [.b true]) (res := [.tmp 12]) Try.call4 Try.func4 rfl Try.ntmps4 rfl (by simp) fun c hc => ?_
  have k1 := fnHead13; have k2 := fnRSums n; have k3 := fnGreat13 n [xs, us, ws, vs] (by simp); have k4 := fnRRight n; refine z_go ?_
  apply Sym.cond
  · rfl
  · intro _
    refine z_go ?_
    with_reducible first | apply Fin.rt | apply Fin.nx
    exact (.cons (.tmp rfl (.of (.of rfl))) .nil)
  · intro hg
    clear k1 k2 k3 k4
    have hh : great7 n [xs, us, ws, vs] = false ∧ ckE n = 0 ∧ (ws.length : Int) = sumW (ckL n) ∧ (vs.length : Int) = sumW (ckL n) := by
      simp at hg
      exact ⟨hg.1.1.1, hg.1.1.2, hg.1.2, hg.2⟩
    obtain ⟨hg, hE, hw, hv⟩ := hh
    have hn := great7_n hg
    have hl := great7_len hg
    have hxl := hl xs (by simp)
    have hul := hl us (by simp)
    have hwl := hl ws (by simp)
    have hvl := hl vs (by simp)
    clear hl hg
    have hsl := stA_len n
    have hsb : (stA n).length ≤ 1000 := Nat.le_trans (stI_len n _) (by omega)
    obtain ⟨m1, m2, m3⟩ := inp_mul hE
    have q1 := fnFirst n xs (by omega)
    have q2 := fnFirst n us (by omega)
    by_cases hx : (xs.length : Int) = shSize n.inp ∧ (us.length : Int) = shSize n.inp
    · obtain ⟨hx, hu⟩ := hx
      rw [first_ok ⟨hE, hx⟩] at q1
      rw [first_ok ⟨hE, hu⟩] at q2
      dsimp only at q1 q2
      obtain ⟨v1, v2⟩ := plT_add (n := n) (zW n) 0 xs us (by omega)
      have v3 := first_fit hE hx
      have hWl : ((addL ws vs).length : Int) = sumW (ckL n) := by rw [addL_len (by omega)]; exact hw
      have hXl : ((addL xs us).length : Int) = shSize n.inp := by rw [addL_len (by omega)]; exact hx
      have hb0 : both n (addL xs us) (addL ws vs) 0 (plT n (zW n) 0 xs) (plT n (zW n) 0 us) := .inl ⟨Nat.zero_le _, v3, v2.symm, by rw [← v1]; exact first_go hE hWl⟩
      have hF : faT n (addL xs us) (addL ws vs) = (foldF n (addL xs us) (addL ws vs) n.ls.length, true) := if_pos ⟨hE, hXl, hWl⟩
      have hFl := faT_len n (addL xs us) (addL ws vs)
      have qF := fnRF n (addL xs us) (addL ws vs)
      rw [hF] at hFl qF
      dsimp only at hFl qF
      clear v1 v2 v3 hF
      generalize plT n (zW n) 0 xs = A0 at *
      generalize plT n (zW n) 0 us = B0 at *
      have k1 := q1; have k2 := q2; refine z_go ?_
      apply Sym.cond
      · rfl
      · intro h
        simp at h
      · intro _
        clear k1 k2
        refine z_go ?_
        refine Sym.loop (fun r s' => ∃ (k : Nat) (A B : List Int), both n (addL xs us) (addL ws vs) k A B ∧ r = (stL n).length + 1 - k ∧ s' = ⟨[(20, true, .p (.i k)), (19, true, .p (.b true)), (18, true, .p (V.list encU B)), (17, true, .p (.b true)), (16, true, .p (V.list encU A)), (13, true, .p (.b true)), (6, true, .ptr 0 0), (5, true, .p (V.list encU vs)), (4, true, .p (V.list encU ws)), (3, true, .p (V.list encU us)), (2, true, .p (V.list encU xs)), (1, true, .p (uV s))], [some (ntBox n)]⟩) ((stL n).length + 1) ⟨_, ⟨0, A0, B0, hb0, rfl, rfl⟩, z_wkt⟩ ?_
        rintro r s' ⟨k, A, B, hAB, rfl, rfl⟩
        have k1 := fnRGStages n (by omega); refine z_go ?_
        apply Sym.cond
        · rfl
        · intro hlt
          have hlt : k ≤ (stL n).length := by
            simp at hlt
            omega
          clear k1
          obtain ⟨C, D', A', B', l1, l2, l3, l4, hAB'⟩ := both_step hE s hw (by omega) hlt hAB
          have r1 := fnLine n 0 s k A ws (by omega)
          have r2 := fnLine n 1 s k B vs (by omega)
          have r3 := fnNext n 0 s k C D' (by omega)
          have r4 := fnNext n 1 s k D' C (by omega)
          rw [l1] at r1
          rw [l2] at r2
          rw [l3] at r3
          rw [l4] at r4
          dsimp only at r1 r2 r3 r4
          clear l1 l2 l3 l4
          have k1 := r1; have k2 := r2; refine z_go ?_
          apply Sym.cond
          · rfl
          · intro h
            simp at h
          · intro _
            clear k1 k2
            have k1 := r3; have k2 := r4; refine z_go ?_
            apply Sym.cond
            · rfl
            · intro h
              simp at h
            · intro _
              refine z_go ?_
              refine ⟨_, ?_, _, ⟨k + 1, A', B', hAB', rfl, rfl⟩, z_wkt⟩
              omega
        · intro hge
          have hge : ¬ k ≤ (stL n).length := by
            simp at hge
            omega
          obtain ⟨rfl, rfl⟩ : A = foldF n (addL xs us) (addL ws vs) n.ls.length ∧ B = foldF n (addL xs us) (addL ws vs) n.ls.length := by
            rcases hAB with ⟨h, _⟩ | ⟨_, h1, h2⟩
            · exact absurd h hge
            · exact ⟨h1, h2⟩
          clear k1 hAB
          have w1 := fnAddU xs us (by omega) (by omega)
          have w2 := fnAddU ws vs (by omega) (by omega)
          generalize addL xs us = X at *
          generalize addL ws vs = W at *
          generalize foldF n X W n.ls.length = F at *
          have w3 := fnSameU F F (by omega)
          rw [beq_self_eq_true] at w3
          have k1 := w1; have k2 := w2; have k3 := qF; have k4 := w3; refine z_go ?_
          with_reducible first | apply Fin.rt | apply Fin.nx
          exact (.cons (.tmp rfl (.of (.of rfl))) .nil)
    · by_cases hx1 : (xs.length : Int) = shSize n.inp
      · have hu1 : ¬ (us.length : Int) = shSize n.inp := fun h => hx ⟨hx1, h⟩
        rw [first_ok ⟨hE, hx1⟩] at q1
        rw [first_no (fun h => hu1 h.2)] at q2
        rw [m1] at hx1 hu1
        dsimp only at q1 q2
        have k1 := q1; have k2 := q2; refine z_go ?_
        apply Sym.cond
        · rfl
        · intro _
          refine z_go ?_
          with_reducible first | apply Fin.rt | apply Fin.nx
          refine .cons (.tmp rfl (.of (.of ?_))) .nil
          simp [D.toV, hx1, hu1]
        · intro h
          simp at h
      · rw [first_no (fun h => hx1 h.2)] at q1
        by_cases hu1 : (us.length : Int) = shSize n.inp
        · rw [first_ok ⟨hE, hu1⟩] at q2
          rw [m1] at hx1 hu1
          dsimp only at q1 q2
          have k1 := q1; have k2 := q2; refine z_go ?_
          apply Sym.cond
          · rfl
          · intro _
            refine z_go ?_
            with_reducible first | apply Fin.rt | apply Fin.nx
            refine .cons (.tmp rfl (.of (.of ?_))) .nil
            simp [D.toV, hx1, hu1]
          · intro h
            simp at h
        · rw [first_no (fun h => hu1 h.2)] at q2
          rw [m1] at hx1 hu1
          dsimp only at q1 q2
          have k1 := q1; have k2 := q2; refine z_go ?_
          apply Sym.cond
          · rfl
          · intro _
            refine z_go ?_
            with_reducible first | apply Fin.rt | apply Fin.nx
            refine .cons (.tmp rfl (.of (.of ?_))) .nil
            simp [D.toV, hx1, hu1]
          · intro h
            simp at h
end Go.Proofs.Ytfnbofkhgimkcaa
