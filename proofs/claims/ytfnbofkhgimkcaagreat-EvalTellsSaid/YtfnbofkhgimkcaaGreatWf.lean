/- Layer 13: the document's Next; the walk of EvalTells. -/
import Derived.Test.YtfnbofkhgimkcaaGreatWe
set_option linter.unusedSimpArgs false
set_option linter.unusedVariables false
namespace Go.Proofs.YtfnbofkhgimkcaaGreat
open Go.RowKit Go.Sy
set_option maxHeartbeats 8000000 in
theorem fnRNext (n : Nt) (who s st : Int) (xs ys : List Int) (hn : n.ls.length ≤ 1000) : Fn1 Tryz.prog 11 [ntV n, .i who, uV s, .i st, V.list encU xs, V.list encU ys] (.tup [V.list encU (nextT n who s st xs ys).1, .b (nextT n who s st xs ys).2]) := by
  refine Fn1.of (rs := [V.list encU _, .b _]) (res := [.tmp 12, .tmp 13]) Tryz.call11 Tryz.func11 rfl Tryz.ntmps11 rfl (by simp) fun c hc => ?_
  have hsl := stA_len n
  have k1 := fnIn n st hn; refine z_go ?_
  apply Sym.cond
  · rfl
  · intro hb
    have hb : inT n st < 0 := by simpa using hb
    rw [show nextT n who s st xs ys = ([], false) by
      unfold nextT
      rw [if_neg]
      intro h
      rw [inT, if_pos h.1] at hb
      have := shSize_b ((ckS n).getD (lay n st.toNat) shZ)
      omega]
    refine z_go ?_
    with_reducible first | apply Fin.rt | apply Fin.nx
    exact .cons (.tmp rfl (.of (.mk rfl z_vle))) (.cons (.tmp rfl (.of (.of rfl))) .nil)
  · intro hb
    have hok : stOk n st := by
      by_cases h : stOk n st
      · exact h
      · rw [inT, if_neg h] at hb
        simp at hb
    clear hb k1
    have hE := hok.1
    have hkl := hok.2.2
    obtain ⟨k, rfl⟩ : ∃ k : Nat, st = k := ⟨st.toNat, by have := hok.2.1; omega⟩
    obtain ⟨L, hL⟩ : ∃ L, lnM n k = L := ⟨_, rfl⟩
    have kl := fnRGLine n k hn
    rw [hL] at kl
    have k1 := kl; refine z_go ?_
    apply Sym.cond
    · rfl
    · intro hb
      rw [show nextT n who s k xs ys = ([], false) by
        unfold nextT
        rw [if_neg]
        simp at hb
        rw [hL]
        omega]
      refine z_go ?_
      with_reducible first | apply Fin.rt | apply Fin.nx
      exact .cons (.tmp rfl (.of (.mk rfl z_vle))) (.cons (.tmp rfl (.of (.of rfl))) .nil)
    · intro hb
      have hb : (xs.length : Int) = L.2 ∧ (ys.length : Int) = L.2 := by
        simp at hb
        omega
      clear k1
      have k1 := fnRGStages n hn; refine z_go ?_
      apply Sym.cond
      · rfl
      · intro h2
        have h2 : (k : Int) = (stL n).length := by
          simp at h2
          omega
        have hL2 : L.2 = shSize (shLast n) := by rw [← hL, lnM, if_pos ⟨hE, h2⟩]
        have hz := shSize_b (shLast n)
        rw [show nextT n who s k xs ys = (addL xs ys, true) by rw [nextT, if_pos ⟨hok, by rw [hL]; exact hb.1, by rw [hL]; exact hb.2⟩, if_pos h2]]
        clear k1
        have k1 := fnAddU xs ys (by omega) (by omega); refine z_go ?_
        with_reducible first | apply Fin.rt | apply Fin.nx
        exact .cons (.tmp rfl (.of (.of rfl))) (.cons (.tmp rfl (.of (.of rfl))) .nil)
      · intro h2
        have h2 : k < (stL n).length := by
          simp at h2
          omega
        obtain ⟨i, hi⟩ : ∃ i, (stL n)[k]? = some i := ⟨_, List.getElem?_eq_getElem h2⟩
        have hi2 := stA_at hi
        have hil := (stL_mem hi).1
        have hsn := ckSn_len hE
        obtain ⟨l1, l2, l3⟩ := ck_len hE
        obtain ⟨b1, b2, b3⟩ := gA_512 n i hE hil
        obtain ⟨nxt, hnxt⟩ : ∃ nxt, (ckS n)[i + 1]? = some nxt := ⟨_, List.getElem?_eq_getElem (by omega)⟩
        have hnxt2 : (ckS n)[((i : Int) + 1).toNat]? = some nxt := hnxt
        have kz := fnRShSize nxt
        have hgs := gS_at hnxt
        have hzb := shSize_b nxt
        rw [show shSize nxt = ((gS n i : Nat) : Int) by omega] at kz
        rw [show nextT n who s k xs ys = (hvT n s who i xs ys, true) by rw [nextT, if_pos ⟨hok, by rw [hL]; exact hb.1, by rw [hL]; exact hb.2⟩, if_neg (by omega), Int.toNat_natCast, lay_at hi]]
        have hL2 : L.2 = 2 * (((gB n i).length : Nat) : Int) := by rw [← hL, lnM_at hi]
        have kr := fnRGRange n k hn
        rw [rg_at hi] at kr
        dsimp only at kr
        have kp := fnRPools n (i + 1) (rawT n s who i xs ys) (by omega)
        rw [Int.natCast_add, Int.cast_ofNat_Int] at kp
        rw [show hvT n s who i xs ys = plT n (zW n) (i + 1) (rawT n s who i xs ys) from rfl]
        obtain ⟨R, hR⟩ : ∃ R : Nat → List Int, ∀ k, R k = hvN s who xs ys (gO n i : Nat) (gB n i) (gS n i) k := ⟨_, fun _ => rfl⟩
        have hR0 : R 0 = List.replicate (gS n i) 0 := by rw [hR]; rfl
        have hRl : ∀ k, (R k).length = gS n i := fun k => by rw [hR, hvN_len]
        have hRe : rawT n s who i xs ys = R (gB n i).length := by rw [hR]; rfl
        have hstep : ∀ j : Nat, j < (gB n i).length → ∃ g, (gA n)[((gO n i : Nat) : Int).toNat + j]? = some g ∧ (∃ p : Nat, g.a = p ∧ p < gS n i ∧ R (j + 1) = (R j).set p (uw (gx (R j) p + clsT who (sumT (gx xs (2 * (j : Int)), gx xs (2 * (j : Int) + 1)) (gx ys (2 * (j : Int)), gx ys (2 * (j : Int) + 1))) (halfT s who ((gO n i : Nat) + j))))) := fun j hj => by
          have hg : (gB n i)[j]? = some (gB n i)[j] := List.getElem?_eq_getElem hj
          generalize (gB n i)[j] = g at hg
          obtain ⟨p, hp, hgp⟩ := gB_mem (List.mem_of_getElem? hg)
          have hga := (gP_mem hgp).2.1
          refine ⟨g, by rw [Int.toNat_natCast, gA_at hE hil hj, hg], p, hga, hp, ?_⟩
          rw [hR, hR, hvN, hg]
          simp only [hga, Int.toNat_natCast]
          unfold clsG
          rw [show ((2 * j : Nat) : Int) = 2 * (j : Int) by omega, show ((2 * j + 1 : Nat) : Int) = 2 * (j : Int) + 1 by omega]
        have hgal := gA_le n
        rw [hRe] at kp ⊢
        have hgs128 : gS n i ≤ 128 := by omega
        clear hRe hR hsn k1 kl hgs hnxt hL
        generalize hM : (gB n i).length = M at *
        generalize hF : gO n i = F at *
        generalize hO : gS n i = O at *
        clear hM hF hO
        have k1 := fnRShapes n; have k2 := kz; refine z_go ?_
        ((with_reducible apply SymL.makeRow (cs := D.enc encU (List.replicate O 0))); exact z_ev; rfl; rfl; rfl; rfl; omega; rfl; (rw [uenc_repl]); exact rfl; exact rfl)
        clear k1 k2
        have k1 := kr; have k2 := fnRGAll n hn; refine z_go ?_
        clear k1 k2
        refine Sym.loop (fun r s' => ∃ j : Nat, j ≤ M ∧ r = M - j ∧ s' = ⟨[(23, true, .p (.i j)), (22, true, .p (V.list encGt (gA n))), (21, true, .p (.i M)), (20, true, .p (.i F)), (19, true, .row 1 O), (16, true, .p (V.list encI (stA n))), (6, true, .ptr 0 0), (5, true, .p (V.list encU ys)), (4, true, .p (V.list encU xs)), (3, true, .p (.i k)), (2, true, .p (uV s)), (1, true, .p (.i who))], [some (ntBox n), some (uRow (R j))]⟩) M ⟨_, ⟨0, Nat.zero_le _, by simp, rfl⟩, ?_⟩ ?_
        · rw [hR0]
          exact z_wkt
        rintro r s' ⟨j, hj, rfl, rfl⟩
        refine z_go ?_
        apply Sym.cond
        · rfl
        · intro hlt
          have hlt : j < M := by
            simp at hlt
            omega
          obtain ⟨g, e1, p, hga, hp, hst⟩ := hstep j hlt
          have e1 : (gA n)[((F : Int) + (j : Int)).toNat]? = some g := by
            rw [show ((F : Int) + (j : Int)).toNat = (F : Int).toNat + j by omega]
            exact e1
          obtain ⟨v1, f1, q1⟩ : ∃ v, xs[(2 * (j : Int)).toNat]? = some v ∧ gx xs (2 * (j : Int)) = v := ⟨_, gx_get (by omega), rfl⟩
          obtain ⟨v2, f2, q2⟩ : ∃ v, xs[(2 * (j : Int) + 1).toNat]? = some v ∧ gx xs (2 * (j : Int) + 1) = v := ⟨_, gx_get (by omega), rfl⟩
          obtain ⟨v3, f3, q3⟩ : ∃ v, ys[(2 * (j : Int)).toNat]? = some v ∧ gx ys (2 * (j : Int)) = v := ⟨_, gx_get (by omega), rfl⟩
          obtain ⟨v4, f4, q4⟩ : ∃ v, ys[(2 * (j : Int) + 1).toNat]? = some v ∧ gx ys (2 * (j : Int) + 1) = v := ⟨_, gx_get (by omega), rfl⟩
          obtain ⟨v5, f5, q5⟩ : ∃ v, (R j)[p]? = some v ∧ gx (R j) p = v := ⟨_, gx_get (l := R j) (i := (p : Int)) (by rw [hRl]; omega), rfl⟩
          rw [q1, q2, q3, q4, q5] at hst
          clear q1 q2 q3 q4 q5
          have hRj := hRl j
          have kh := fnRHalf s who (uw ((F : Int) + j))
          rw [show halfT s who (uw ((F : Int) + j)) = halfT s who ((F : Int) + j) by rw [uw_self (by omega)]] at kh
          clear hstep
          refine z_go ?_
          (apply Sym.drawXL [25, 26] (by kernel_rfl) (by kernel_rfl) (by kernel_rfl))
          have k1 := fnRSumB (v1, v2) (v3, v4); refine z_xgo ?_
          clear k1
          refine z_go ?_
          rw [hga]
          (apply Sym.drawL 18 (by kernel_rfl) (by kernel_rfl))
          repeat ((with_reducible apply MTo.step1); exact z_gd; exact z_mop; exact rfl)
          ((with_reducible apply MTo.step1); exact z_gd; ((with_reducible apply MOp.loadRow1 (enc := encU) (j := p)); exact z_ev; rfl; rfl; rfl; rfl; (intro q; rfl); exact f5; rfl); exact rfl)
          have k2 := kh
          have k1 := fnRClose who (sumT (v1, v2) (v3, v4)) (halfT s who ((F : Int) + j)); refine z_mt ?_
          ((with_reducible apply SymL.storeRow (enc := encU) p (uw (v5 + clsT who (sumT (v1, v2) (v3, v4)) (halfT s who ((F : Int) + j))))); exact z_ev; exact z_ev; rfl; rfl; rfl; (intro v hv; rw [List.mem_singleton.1 hv]; rfl); rfl; (intro q; rfl); omega; exact z_wr)
          · exact rfl
          rw [← hst]
          refine z_go ?_
          refine ⟨_, ?_, _, ⟨j + 1, by omega, rfl, rfl⟩, z_wkt⟩
          omega
        · intro hge
          obtain rfl : j = M := by
            simp at hge
            omega
          have hRj := hRl j
          generalize R j = X at *
          (refine Sym.freeze encU 19 X (by rw [hRj]; rfl) rfl rfl (by assumption) z_cln z_cln ?_)
          have k1 := kp; refine z_go ?_
          with_reducible first | apply Fin.rt | apply Fin.nx
          exact .cons (.tmp rfl (.of (.of rfl))) (.cons (.tmp rfl (.of (.of rfl))) .nil)
theorem first_len (n : Nt) (xs : List Int) : (firstT n xs).1.length ≤ 3000 := by
  unfold firstT
  split
  · rename_i h
    have := first_fit h.1 h.2
    have := inT_128 n 0
    simp only
    omega
  · simp
theorem line_len (n : Nt) (who s st : Int) (xs ws : List Int) : (lineT n who s st xs ws).1.length ≤ 3000 := by
  unfold lineT
  split
  · rename_i h
    have h1 := h.1.2
    have := inT_128 n st
    split
    · simp only
      omega
    · rename_i h2
      obtain ⟨⟨⟨hE, h3, h4⟩, _⟩, _⟩ := h
      obtain ⟨i, hi⟩ : ∃ i, (stL n)[st.toNat]? = some i := ⟨_, List.getElem?_eq_getElem (by omega)⟩
      rw [lay_at hi, sayT_len]
      have := gA_512 n i hE (stL_mem hi).1
      omega
  · simp
theorem next_len (n : Nt) (who s st : Int) {a b : List Int} (ha : a.length ≤ 3000) : (nextT n who s st a b).1.length ≤ 3000 := by
  unfold nextT
  split
  · rename_i h
    split
    · simp only [addL, List.length_zipWith]
      omega
    · rename_i h2
      obtain ⟨⟨hE, h3, h4⟩, _⟩ := h
      obtain ⟨i, hi⟩ : ∃ i, (stL n)[st.toNat]? = some i := ⟨_, List.getElem?_eq_getElem (by omega)⟩
      rw [lay_at hi]
      have h5 := hv_fit hi s who a b
      have := inT_128 n ((st.toNat + 1 : Nat) : Int)
      simp only
      omega
  · simp
set_option maxRecDepth 100000 in
set_option maxHeartbeats 8000000 in
theorem EvalTells_fn (n : Nt) (who s st : Int) (xs ws ts : List Int) : Fn1 Tryz.prog 3 [ntV n, .i who, uV s, .i st, V.list encU xs, V.list encU ws, V.list encU ts] (.b true) := by
  refine Fn1.of (rs := [.b true]) (res := [.tmp 14]) Tryz.call3 Tryz.func3 rfl Tryz.ntmps3 rfl (by simp) fun c hc => ?_
  have k1 := fnHead13; have k2 := fnGreat13 n [xs, ws, ts] (by simp); refine z_go ?_
  apply Sym.cond
  · rfl
  · intro _
    refine z_go ?_
    with_reducible first | apply Fin.rt | apply Fin.nx
    exact (.cons (.tmp rfl (.of (.of rfl))) .nil)
  · intro hg
    have hn : n.ls.length ≤ 60 := by
      unfold great7 at hg
      simp at hg
      omega
    clear hg
    have q1 := fnFirst n xs (by omega)
    have q2 := fnRFirst n xs (by omega)
    have q3 := fnLine n who s st xs ws (by omega)
    have q4 := fnRLine n who s st xs ws (by omega)
    have q5 := fnNext n who s st (lineT n who s st xs ws).1 ts (by omega)
    have q6 := fnRNext n who s st (lineT n who s st xs ws).1 ts (by omega)
    have l2 := line_len n who s st xs ws
    have w1 := fnSameU (firstT n xs).1 (firstT n xs).1 (Nat.le_trans (first_len n xs) (by decide))
    have w2 := fnSameU (lineT n who s st xs ws).1 (lineT n who s st xs ws).1 (Nat.le_trans l2 (by decide))
    have w3 := fnSameU (nextT n who s st (lineT n who s st xs ws).1 ts).1 (nextT n who s st (lineT n who s st xs ws).1 ts).1 (Nat.le_trans (next_len n who s st l2) (by decide))
    rw [beq_self_eq_true] at w1 w2 w3
    generalize nextT n who s st (lineT n who s st xs ws).1 ts = C at *
    generalize lineT n who s st xs ws = B at *
    generalize firstT n xs = A at *
    obtain ⟨A1, A2⟩ := A
    obtain ⟨B1, B2⟩ := B
    obtain ⟨C1, C2⟩ := C
    dsimp only at *
    have k1 := q1; have k2 := q2; have k3 := q3; have k4 := q4; have k5 := q5; have k6 := q6; have k7 := w1; have k8 := w2; have k9 := w3; refine z_go ?_
    with_reducible first | apply Fin.rt | apply Fin.nx
    refine .cons (.tmp rfl (.of (.of ?_))) .nil
    simp [D.toV]
end Go.Proofs.YtfnbofkhgimkcaaGreat
