/- Layer 13's laws: the walk of EvalApart. -/
import Derived.Test.YtfnbofkhgimkcaaWb
set_option linter.unusedSimpArgs false
set_option linter.unusedVariables false
namespace Go.Proofs.Ytfnbofkhgimkcaa
open Go.RowKit Go.Sy
theorem uw_apart (a b m : Int) : uw (uw (a - m) - uw (b - m)) = uw (a - b) := by
  simp only [uw_mod]
  omega
set_option maxRecDepth 100000 in
set_option maxHeartbeats 8000000 in
theorem EvalApart_fn (n : Nt) (who s a : Int) (xs us ws vs : List Int) (ha : 0 ≤ a ∧ a ≤ 255) : Fn1 Try.prog 5 [ntV n, .i who, uV s, .x (.int .u8 a), V.list encU xs, V.list encU us, V.list encU ws, V.list encU vs] (.b true) := by
  refine Fn1.of (rs := [.b true]) (res := [.tmp 16]) Try.call5 Try.func5 rfl Try.ntmps5 rfl (by simp) fun c hc => ?_
  obtain ⟨k, hk9, _⟩ := mod9 ha
  have kg := fnGreat13 n [xs, us, ws, vs] (by simp)
  cases hg : great7 n [xs, us, ws, vs] with
  | true =>
    rw [hg] at kg
    have k1 := fnHead13; have k2 := kg; refine z_go ?_
    (with_reducible apply SymL.opr); exact z_gd; (exact MOp.orT z_ev rfl); exact rfl
    refine z_go ?_
    apply Sym.cond
    · rfl
    · intro _
      refine z_go ?_
      with_reducible first | apply Fin.rt | apply Fin.nx
      exact (.cons (.tmp rfl (.of (.of rfl))) .nil)
    · intro h
      simp at h
  | false =>
    rw [hg] at kg
    have hn := great7_n hg
    have hl := great7_len hg
    have hxl := hl xs (by simp)
    have hul := hl us (by simp)
    have hwl := hl ws (by simp)
    have hvl := hl vs (by simp)
    clear hl hg
    have hsl := stA_len n
    have k1 := fnHead13; have k2 := kg; have k3 := fnRGStages n (by omega); refine z_go ?_
    rw [hk9]
    apply Sym.cond
    · rfl
    · intro _
      refine z_go ?_
      with_reducible first | apply Fin.rt | apply Fin.nx
      exact (.cons (.tmp rfl (.of (.of rfl))) .nil)
    · intro h
      have hkl : k < (stL n).length := by
        simp at h
        omega
      clear k1 k2 k3 h
      have q1 := fnLine n who s k xs ws (by omega)
      have q2 := fnLine n who s k us vs (by omega)
      obtain ⟨i, hi⟩ : ∃ i, (stL n)[k]? = some i := ⟨_, List.getElem?_eq_getElem hkl⟩
      have kr := fnRGRange n k (by omega)
      rw [rg_at hi] at kr
      dsimp only at kr
      by_cases hAB : (lineT n who s k xs ws).2 = true ∧ (lineT n who s k us vs).2 = true
      · obtain ⟨_, c1, c2⟩ := line_ok hAB.1
        obtain ⟨_, c3, c4⟩ := line_ok hAB.2
        have l1 := sayT_len n s who i xs ws
        have l2 := sayT_len n s who i us vs
        have hE := stL_ok hi
        have hil := (stL_mem hi).1
        have hsn := ckSn_len hE
        obtain ⟨b1, b2, b3⟩ := gA_512 n i hE hil
        obtain ⟨cur, hcur⟩ : ∃ cur, (ckS n)[i]? = some cur := ⟨_, List.getElem?_eq_getElem (by omega)⟩
        have hin := inT_at hi hcur
        have hT := tm_fit hE hil hcur (X := xs.length) (W := ws.length) (by omega) c2
        rw [line_at hi who s c1 c2] at q1
        rw [line_at hi who s c3 c4] at q2
        dsimp only at q1 q2
        have hgt : ∀ j : Nat, j < (gB n i).length → ∃ g M N x1 u1, (gA n)[((gO n i : Nat) : Int).toNat + j]? = some g ∧ xs[g.x.toNat]? = some x1 ∧ us[g.x.toNat]? = some u1 ∧ (0 ≤ g.x ∧ g.x < xs.length ∧ g.x < us.length) ∧ (g.w < 0 ∨ 0 ≤ g.w ∧ g.w < ws.length ∧ g.w < vs.length) ∧
            (sayT n s who i xs ws)[2 * j]? = some (uw (x1 - M)) ∧ (sayT n s who i us vs)[2 * j]? = some (uw (u1 - M)) ∧ (sayT n s who i xs ws)[2 * j + 1]? = some (uw (gY xs ws g - N)) ∧ (sayT n s who i us vs)[2 * j + 1]? = some (uw (gY us vs g - N)) ∧ gx xs g.x = x1 ∧ gx us g.x = u1 := fun j hj => by
          have hg : (gB n i)[j]? = some (gB n i)[j] := List.getElem?_eq_getElem hj
          generalize (gB n i)[j] = g at hg
          obtain ⟨a1, a2⟩ := sayN_get (s := s) (who := who) (xs := xs) (ws := ws) (fst := (gO n i : Nat)) hg _ hj (Nat.le_refl _)
          obtain ⟨a3, a4⟩ := sayN_get (s := s) (who := who) (xs := us) (ws := vs) (fst := (gO n i : Nat)) hg _ hj (Nat.le_refl _)
          obtain ⟨p, hp, hgp⟩ := gB_mem (List.mem_of_getElem? hg)
          obtain ⟨q, hq⟩ := List.getElem?_of_mem hgp
          obtain ⟨_, _, _, t, ht, e1, e2⟩ := gP_zone hq
          obtain ⟨t1, t2⟩ := hT p hp t (List.mem_of_getElem? ht)
          have hx : 0 ≤ g.x ∧ g.x < xs.length := by omega
          have hu : 0 ≤ g.x ∧ g.x < us.length := by omega
          exact ⟨g, _, _, _, _, by rw [Int.toNat_natCast, gA_at hE hil hj, hg], gx_get hx, gx_get hu, by omega, by omega, a1, a3, a2, a4, rfl, rfl⟩
        have hgal := gA_le n
        generalize sayT n s who i xs ws = A at *
        generalize sayT n s who i us vs = B at *
        generalize hM : (gB n i).length = M at *
        generalize hF : gO n i = F at *
        clear hT hin hsn c1 c2 c3 c4 hAB hM hF
        have k1 := q1; have k2 := q2; have k3 := kr; refine z_go ?_
        apply Sym.cond
        · rfl
        · intro h
          simp at h
        · intro _
          refine z_go ?_
          apply Sym.cond
          · rfl
          · intro h
            exfalso
            simp at h
            omega
          · intro _
            clear k1 k2 k3
            have k1 := fnRGAll n (by omega); refine z_go ?_
            clear k1
            refine Sym.loop (fun r s' => ∃ j : Nat, j ≤ M ∧ r = M - j ∧ s' = ⟨[(26, true, .p (.i j)), (25, true, .p (V.list encGt (gA n))), (24, true, .p (.i M)), (23, true, .p (.i F)), (21, true, .p (V.list encU B)), (19, true, .p (V.list encU A)), (17, true, .p (.b true)), (7, true, .p (V.list encU vs)), (6, true, .p (V.list encU ws)), (5, true, .p (V.list encU us)), (4, true, .p (V.list encU xs))], [some (ntBox n)]⟩) M ⟨_, ⟨0, Nat.zero_le _, by simp, rfl⟩, z_wkt⟩ ?_
            rintro r s' ⟨j, hj, rfl, rfl⟩
            refine z_go ?_
            apply Sym.cond
            · rfl
            · intro hlt
              have hlt : j < M := by
                simp at hlt
                omega
              obtain ⟨g, M1, N1, x1, u1, e1, e2, e3, e4, e5, e6, e7, e8, e9, e10, e11⟩ := hgt j hlt
              have e1 : (gA n)[((F : Int) + (j : Int)).toNat]? = some g := by
                rw [show ((F : Int) + (j : Int)).toNat = (F : Int).toNat + j by omega]
                exact e1
              have e6 : A[(2 * (j : Int)).toNat]? = some (uw (x1 - M1)) := by
                rw [show (2 * (j : Int)).toNat = 2 * j by omega]
                exact e6
              have e7 : B[(2 * (j : Int)).toNat]? = some (uw (u1 - M1)) := by
                rw [show (2 * (j : Int)).toNat = 2 * j by omega]
                exact e7
              have e8 : A[(2 * (j : Int) + 1).toNat]? = some (uw (gY xs ws g - N1)) := by
                rw [show (2 * (j : Int) + 1).toNat = 2 * j + 1 by omega]
                exact e8
              have e9 : B[(2 * (j : Int) + 1).toNat]? = some (uw (gY us vs g - N1)) := by
                rw [show (2 * (j : Int) + 1).toNat = 2 * j + 1 by omega]
                exact e9
              clear hgt
              by_cases hw : g.w < 0
              · rw [show gY xs ws g = x1 by rw [gY, if_pos hw, e10]] at e8
                rw [show gY us vs g = u1 by rw [gY, if_pos hw, e11]] at e9
                clear e10 e11
                refine z_go ?_
                apply Sym.cond
                · rfl
                · intro h
                  exfalso
                  simp at h
                  omega
                · intro _
                  refine z_go ?_
                  apply Sym.cond
                  · rfl
                  · intro h
                    exfalso
                    simp [uw_apart] at h
                  · intro _
                    refine z_go ?_
                    refine ⟨_, ?_, _, ⟨j + 1, by omega, rfl, rfl⟩, z_wkt⟩
                    omega
              · obtain ⟨y1, f1, f2⟩ : ∃ y1, ws[g.w.toNat]? = some y1 ∧ gx ws g.w = y1 := ⟨_, gx_get (by omega), rfl⟩
                obtain ⟨z1, f3, f4⟩ : ∃ y1, vs[g.w.toNat]? = some y1 ∧ gx vs g.w = y1 := ⟨_, gx_get (by omega), rfl⟩
                rw [show gY xs ws g = y1 by rw [gY, if_neg hw, f2]] at e8
                rw [show gY us vs g = z1 by rw [gY, if_neg hw, f4]] at e9
                clear e10 e11 f2 f4
                refine z_go ?_
                apply Sym.cond
                · rfl
                · intro _
                  refine z_go ?_
                  apply Sym.cond
                  · rfl
                  · intro h
                    exfalso
                    simp [uw_apart] at h
                  · intro _
                    refine z_go ?_
                    refine ⟨_, ?_, _, ⟨j + 1, by omega, rfl, rfl⟩, z_wkt⟩
                    omega
                · intro h
                  exfalso
                  simp at h
                  omega
            · intro _
              refine z_go ?_
              with_reducible first | apply Fin.rt | apply Fin.nx
              exact (.cons (.tmp rfl (.of (.of rfl))) .nil)
      · have k1 := q1; have k2 := q2; have k3 := kr; refine z_go ?_
        apply Sym.cond
        · rfl
        · intro _
          refine z_go ?_
          with_reducible first | apply Fin.rt | apply Fin.nx
          exact (.cons (.tmp rfl (.of (.of rfl))) .nil)
        · intro h
          exfalso
          simp at h
          exact hAB h
end Go.Proofs.Ytfnbofkhgimkcaa
