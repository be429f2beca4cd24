/- Layer 13: what the document's functions compute. -/
import Derived.Test.YtfnbofkhgimkcaaGreatW7
set_option linter.unusedSimpArgs false
set_option linter.unusedVariables false
namespace Go.Proofs.YtfnbofkhgimkcaaGreat
open Go.RowKit Go.Sy
theorem fnRShift (z b : Int) (m : Nat) (hm : b = m) (h64 : m ≤ 63) : Fn1 Tryz.prog 63 [uV z, .i b] (uV (sf z m)) := by
  refine Fn1.of (rs := [uV _]) (res := [.tmp 4]) Tryz.call63 Tryz.func63 rfl Tryz.ntmps63 rfl (by simp) fun c hc => ?_
  refine z_go ?_
  (with_reducible apply SymL.opr); exact z_gd; ((with_reducible apply MOp.shr); exact z_ev; exact z_ev; omega); exact rfl
  (with_reducible apply SymL.opr); exact z_gd; ((with_reducible apply MOp.bits_ (.inr (.inr (.inl rfl)))); exact z_ev; exact z_ev); exact rfl
  refine z_go ?_
  with_reducible first | apply Fin.rt | apply Fin.nx
  rw [show sf z m = bits .xor .u64 z (z.fdiv (2 ^ (min b.toNat IntKind.u64.bits))) by
    subst hm
    rw [show min (m : Int).toNat IntKind.u64.bits = m by simp only [Int.toNat_natCast]; exact Nat.min_eq_left (by show m ≤ 64; omega)]
    rfl]
  exact (.cons (.tmp rfl (.of (.of rfl))) .nil)
set_option maxRecDepth 100000 in
theorem fnRNum (s i : Int) : Fn1 Tryz.prog 47 [uV s, uV i] (uV (numS s i)) := by
  refine Fn1.of (rs := [uV _]) (res := [.tmp 4]) Tryz.call47 Tryz.func47 rfl Tryz.ntmps47 rfl (by simp) fun c hc => ?_
  rw [show numS s i = sf (uw (sf (uw (sf (uw (s + uw (uw (i + 1) * 11400714819323198485))) 30 * 13787848793156543929)) 27 * 10723151780598845931)) 31 by
    unfold numS
    rw [Int.mul_comm (uw (i + 1)), Int.mul_comm _ 13787848793156543929, Int.mul_comm _ 10723151780598845931]]
  have q1 := fnRShift (uw (s + uw (uw (i + 1) * 11400714819323198485))) 30 30 rfl (by omega)
  generalize sf (uw (s + uw (uw (i + 1) * 11400714819323198485))) 30 = y0 at *
  have q2 := fnRShift (uw (y0 * 13787848793156543929)) 27 27 rfl (by omega)
  generalize sf (uw (y0 * 13787848793156543929)) 27 = y1 at *
  have q3 := fnRShift (uw (y1 * 10723151780598845931)) 31 31 rfl (by omega)
  generalize sf (uw (y1 * 10723151780598845931)) 31 = y2 at *
  have k1 := q1; refine z_go ?_
  clear k1
  have k1 := q2; refine z_go ?_
  clear k1
  have k1 := q3; refine z_go ?_
  with_reducible first | apply Fin.rt | apply Fin.nx
  exact (.cons (.tmp rfl (.of (.of rfl))) .nil)
theorem fnROpen (x y : Int) (t : Tr) : Fn1 Tryz.prog 29 [uV x, uV y, trV t] (opV (opnT x y t)) := by
  refine Fn1.of (rs := [opV _]) (res := [.cell 6 62]) Tryz.call29 Tryz.func29 rfl Tryz.ntmps29 rfl (by simp) fun c hc => ?_
  refine z_go ?_
  with_reducible first | apply Fin.rt | apply Fin.nx
  exact .cons (.cellA inferInstance rfl rfl rfl (Nat.le_of_ble_eq_true rfl) (.of (.of rfl))) .nil
theorem fnRSumB (o p : Int × Int) : Fn1 Tryz.prog 34 [opV o, opV p] (opV (sumT o p)) := by
  refine Fn1.of (rs := [opV _]) (res := [.cell 4 62]) Tryz.call34 Tryz.func34 rfl Tryz.ntmps34 rfl (by simp) fun c hc => ?_
  refine z_go ?_
  with_reducible first | apply Fin.rt | apply Fin.nx
  exact .cons (.cellA inferInstance rfl rfl rfl (Nat.le_of_ble_eq_true rfl) (.of (.of rfl))) .nil
theorem fnRClose (who : Int) (o : Int × Int) (t : Tr) : Fn1 Tryz.prog 35 [.i who, opV o, trV t] (uV (clsT who o t)) := by
  refine Fn1.of (rs := [uV _]) (res := [.tmp 6]) Tryz.call35 Tryz.func35 rfl Tryz.ntmps35 rfl (by simp) fun c hc => ?_
  refine z_go ?_
  apply Sym.cond
  · rfl
  · intro h
    have h : who = 0 := by simpa using h
    refine z_go ?_
    with_reducible first | apply Fin.rt | apply Fin.nx
    rw [clsT, if_pos h]
    exact (.cons (.tmp rfl (.of (.of rfl))) .nil)
  · intro h
    have h : ¬ who = 0 := by simpa using h
    refine z_go ?_
    with_reducible first | apply Fin.rt | apply Fin.nx
    rw [clsT, if_neg h]
    exact (.cons (.tmp rfl (.of (.of rfl))) .nil)
theorem fnRHalf (s who i : Int) : Fn1 Tryz.prog 30 [uV s, .i who, uV i] (trV (halfT s who i)) := by
  refine Fn1.of (rs := [trV _]) (res := [.cell 6 65]) Tryz.call30 Tryz.func30 rfl Tryz.ntmps30 rfl (by simp) fun c hc => ?_
  have k0 := fnRNum s (uw (5 * i))
  rw [show numS s (uw (5 * i)) = msk s i 0 by rw [msk, Int.add_zero, uw_id]] at k0
  have e : ∀ j : Int, Fn1 Tryz.prog 47 [uV s, uV (uw (uw (5 * i) + j))] (uV (msk s i j)) := fun j => fnRNum s _
  have k1 := k0; have k2 := e 1; have k3 := e 2; have k4 := e 3; have k5 := e 4; refine z_go ?_
  apply Sym.cond
  · rfl
  · intro h
    have h : who = 0 := by simpa using h
    refine z_go ?_
    with_reducible first | apply Fin.rt | apply Fin.nx
    rw [halfT, if_pos h]
    exact .cons (.cellA inferInstance rfl rfl rfl (Nat.le_of_ble_eq_true rfl) (.of (.of rfl))) .nil
  · intro h
    have h : ¬ who = 0 := by simpa using h
    refine z_go ?_
    with_reducible first | apply Fin.rt | apply Fin.nx
    rw [halfT, if_neg h]
    exact .cons (.cellA inferInstance rfl rfl rfl (Nat.le_of_ble_eq_true rfl) (.of (.of rfl))) .nil
set_option maxHeartbeats 2000000 in
theorem fnRPools (n : Nt) (i : Nat) (xs : List Int) (hn : n.ls.length ≤ 1000000) : Fn1 Tryz.prog 21 [ntV n, .i i, V.list encU xs] (V.list encU (plT n (zW n) i xs)) := by
  refine Fn1.of (rs := [V.list encU _]) (res := [.tmp 6]) Tryz.call21 Tryz.func21 rfl Tryz.ntmps21 rfl (by simp) fun c hc => ?_
  have hw := (ckL_ok n).2 (ckL n).length
  rw [List.take_length] at hw
  obtain ⟨M, hM⟩ : ∃ M : Nat, sumW (ckL n) = M := ⟨(sumW (ckL n)).toNat, by omega⟩
  have hz : zW n = List.replicate M 0 := by rw [zW, hM]; rfl
  rw [hz]
  clear hz
  have k1 := fnRSums n; refine z_go ?_
  rw [hM]
  (with_reducible apply SymL.opr); exact z_gd; ((with_reducible apply MOp.makeL (enc := encU) (a0 := 0)); exact z_ev; rfl; rfl; rfl; rfl; omega; rfl); exact rfl
  clear k1
  refine z_go ?_
  refine Sym.loop (fun k s' => ∃ (j : Nat) (ys : List Int), n.ls.length - j = k ∧ plT n (List.replicate M 0) j ys = plT n (List.replicate M 0) i xs ∧ s' = ⟨[(9, true, .p (V.list encU (List.replicate M 0))), (3, true, .ptr 0 0), (2, true, .p (V.list encU ys)), (1, true, .p (.i j))], [some (ntBox n)]⟩) (n.ls.length - i) ⟨_, ⟨i, xs, rfl, rfl, rfl⟩, z_wkt⟩ ?_
  rintro k s' ⟨j, ys, rfl, hys, rfl⟩
  by_cases hj : j < n.ls.length
  · obtain ⟨el, hel⟩ : ∃ el, n.ls[j]? = some el := ⟨_, List.getElem?_eq_getElem hj⟩
    refine z_go ?_
    apply Sym.cond
    · rfl
    · intro hk
      have hk : el.kind = 3 := by
        simp at hk
        exact hk.2
      rw [plT_pool hel hk] at hys
      have k1 := fnRLayer7 n j ys (List.replicate M 0); refine z_go ?_
      refine ⟨_, ?_, _, ⟨j + 1, _, rfl, hys, rfl⟩, z_wkt⟩
      omega
    · intro hk
      have hk : el.kind ≠ 3 := by
        simp at hk
        exact hk hj
      rw [plT_stop (fun el' he => by rw [hel] at he; cases he; exact hk)] at hys
      subst hys
      refine z_go ?_
      with_reducible first | apply Fin.rt | apply Fin.nx
      exact (.cons (.tmp rfl (.of (.of rfl))) .nil)
  · have hof : decide ((j : Int) < n.ls.length) = false := by
      simp
      omega
    rw [plT_stop (fun el he => by rw [List.getElem?_eq_none (by omega)] at he; cases he)] at hys
    subst hys
    repeat (first | with_reducible apply Sym.seq | with_reducible apply Sym.block | apply Sym.regionL)
    iterate 6 ((with_reducible apply SymL.opr); exact z_gd; exact z_mop; exact rfl)
    iterate 7 ((with_reducible apply SymL.opr); exact z_gd; exact MOp.off (by rw [hof]; rfl); exact rfl)
    ((with_reducible apply SymL.opr); exact z_gd; exact MOp.andF z_ev hof; exact rfl)
    refine z_go ?_
    apply Sym.cond
    · rfl
    · intro h
      cases h
    · intro _
      refine z_go ?_
      with_reducible first | apply Fin.rt | apply Fin.nx
      exact (.cons (.tmp rfl (.of (.of rfl))) .nil)
theorem inT_128 (n : Nt) (st : Int) : inT n st ≤ 128 := by
  unfold inT
  split
  · have := shSize_b ((ckS n).getD (lay n st.toNat) shZ)
    omega
  · omega
set_option maxHeartbeats 4000000 in
theorem fnRFirst (n : Nt) (xs : List Int) (hn : n.ls.length ≤ 1000) : Fn1 Tryz.prog 7 [ntV n, V.list encU xs] (.tup [V.list encU (firstT n xs).1, .b (firstT n xs).2]) := by
  refine Fn1.of (rs := [V.list encU _, .b _]) (res := [.tmp 4, .tmp 5]) Tryz.call7 Tryz.func7 rfl Tryz.ntmps7 rfl (by simp) fun c hc => ?_
  have k1 := fnRRight n; have k2 := fnRShSize n.inp; refine z_go ?_
  apply Sym.cond
  · rfl
  · intro hb
    rw [show firstT n xs = ([], false) by
      unfold firstT
      rw [if_neg]
      simp at hb
      omega]
    refine z_go ?_
    with_reducible first | apply Fin.rt | apply Fin.nx
    exact .cons (.tmp rfl (.of (.mk rfl z_vle))) (.cons (.tmp rfl (.of (.of rfl))) .nil)
  · intro hb
    have hb : ckE n = 0 ∧ (xs.length : Int) = shSize n.inp := by
      simp at hb
      omega
    have hz := first_fit hb.1 hb.2
    have hz2 : inT n 0 ≤ 128 := by
      unfold inT
      split
      · have := shSize_b ((ckS n).getD (lay n (0 : Int).toNat) shZ)
        omega
      · omega
    have kp := fnRPools n 0 xs (by omega)
    rw [show firstT n xs = (plT n (zW n) 0 xs, true) from if_pos hb]
    generalize plT n (zW n) 0 xs = Y at *
    have k1 := kp; have a1 : AppH encU [] Y := .mk; refine z_go ?_
    with_reducible first | apply Fin.rt | apply Fin.nx
    exact .cons (.tmp rfl (.of (.of rfl))) (.cons (.tmp rfl (.of (.of rfl))) .nil)
set_option maxHeartbeats 8000000 in
theorem fnRLine (n : Nt) (who s st : Int) (xs ws : List Int) (hn : n.ls.length ≤ 1000) : Fn1 Tryz.prog 9 [ntV n, .i who, uV s, .i st, V.list encU xs, V.list encU ws] (.tup [V.list encU (lineT n who s st xs ws).1, .b (lineT n who s st xs ws).2]) := by
  refine Fn1.of (rs := [V.list encU _, .b _]) (res := [.tmp 12, .tmp 13]) Tryz.call9 Tryz.func9 rfl Tryz.ntmps9 rfl (by simp) fun c hc => ?_
  have hsl := stA_len n
  have k1 := fnRSums n; have k2 := fnIn n st hn; refine z_go ?_
  apply Sym.cond
  · rfl
  · intro hb
    rw [show lineT n who s st xs ws = ([], false) by
      unfold lineT
      rw [if_neg]
      simp at hb
      omega]
    refine z_go ?_
    with_reducible first | apply Fin.rt | apply Fin.nx
    exact .cons (.tmp rfl (.of (.mk rfl z_vle))) (.cons (.tmp rfl (.of (.of rfl))) .nil)
  · intro hb
    have hb : (xs.length : Int) = inT n st ∧ (ws.length : Int) = sumW (ckL n) := by
      simp at hb
      omega
    have hok : stOk n st := by
      by_cases h : stOk n st
      · exact h
      · have := hb.1
        rw [inT, if_neg h] at this
        omega
    have hE := hok.1
    have hkl := hok.2.2
    have hib := hb.1
    have hi8 := inT_128 n st
    obtain ⟨k, rfl⟩ : ∃ k : Nat, st = k := ⟨st.toNat, by have := hok.2.1; omega⟩
    clear k1 k2
    have k1 := fnRGStages n hn; refine z_go ?_
    apply Sym.cond
    · rfl
    · intro h2
      have h2 : (k : Int) = (stL n).length := by
        simp at h2
        omega
      rw [show lineT n who s k xs ws = (xs, true) by rw [lineT, if_pos ⟨⟨hok, hb.1⟩, hb.2⟩, if_pos h2]]
      have a1 : AppH encU [] xs := .mk; refine z_go ?_
      with_reducible first | apply Fin.rt | apply Fin.nx
      exact .cons (.tmp rfl (.of (.of rfl))) (.cons (.tmp rfl (.of (.of rfl))) .nil)
    · intro h2
      have h2 : k < (stL n).length := by
        simp at h2
        omega
      obtain ⟨i, hi⟩ : ∃ i, (stL n)[k]? = some i := ⟨_, List.getElem?_eq_getElem h2⟩
      have hil := (stL_mem hi).1
      have hsn := ckSn_len hE
      obtain ⟨b1, b2, b3⟩ := gA_512 n i hE hil
      obtain ⟨cur, hcur⟩ : ∃ cur, (ckS n)[i]? = some cur := ⟨_, List.getElem?_eq_getElem (by omega)⟩
      have hin := inT_at hi hcur
      have hT := tm_fit hE hil hcur (X := xs.length) (W := ws.length) (by omega) hb.2
      rw [show lineT n who s k xs ws = (sayT n s who i xs ws, true) by rw [lineT, if_pos ⟨⟨hok, hb.1⟩, hb.2⟩, if_neg (by omega), Int.toNat_natCast, lay_at hi]]
      have kr := fnRGRange n k hn
      rw [rg_at hi] at kr
      dsimp only at kr
      obtain ⟨R, hR⟩ : ∃ R : Nat → List Int, ∀ k, R k = sayN s who xs ws (gO n i : Nat) (gB n i) k := ⟨_, fun _ => rfl⟩
      have hR0 : R 0 = [] := by rw [hR]; rfl
      have hRl : ∀ k, k ≤ (gB n i).length → (R k).length = 2 * k := fun k hk => by
        rw [hR, sayN_len _ _ _ _ _ _ _ hk]
      have hRe : sayT n s who i xs ws = R (gB n i).length := by rw [hR]; rfl
      have hstep : ∀ j : Nat, j < (gB n i).length → ∃ g, (gA n)[((gO n i : Nat) : Int).toNat + j]? = some g ∧ (0 ≤ g.x ∧ g.x < xs.length) ∧ (g.w < 0 ∨ 0 ≤ g.w ∧ g.w < ws.length) ∧ R (j + 1) = R j ++ [(opnT (gx xs g.x) (gY xs ws g) (halfT s who ((gO n i : Nat) + j))).1, (opnT (gx xs g.x) (gY xs ws g) (halfT s who ((gO n i : Nat) + j))).2] := fun j hj => by
        have hg : (gB n i)[j]? = some (gB n i)[j] := List.getElem?_eq_getElem hj
        generalize (gB n i)[j] = g at hg
        obtain ⟨p, hp, hgp⟩ := gB_mem (List.mem_of_getElem? hg)
        obtain ⟨q, hq⟩ := List.getElem?_of_mem hgp
        obtain ⟨_, _, _, t, ht, e1, e2⟩ := gP_zone hq
        obtain ⟨t1, t2⟩ := hT p hp t (List.mem_of_getElem? ht)
        refine ⟨g, by rw [Int.toNat_natCast, gA_at hE hil hj, hg], by omega, by omega, ?_⟩
        rw [hR, hR, sayN_succ hg]
        rfl
      have hgal := gA_le n
      rw [hRe]
      clear hRe hR hT hin hsn k1
      generalize hM : (gB n i).length = M at *
      generalize hF : gO n i = F at *
      clear hM hF
      have k1 := kr; have k2 := fnRGAll n hn; refine z_go ?_
      clear k1 k2
      refine Sym.weak (Le.asRow 16 27 1 rfl rfl rfl z_nrm z_nrm) ?_
      refine Sym.loop (fun r s' => ∃ j : Nat, j ≤ M ∧ r = M - j ∧ s' = ⟨[(20, true, .p (.i ((F : Int) + j))), (19, true, .p (V.list encGt (gA n))), (18, true, .p (.i M)), (17, true, .p (.i F)), (16, true, .row 1 (R j).length), (6, true, .ptr 0 0), (5, true, .p (V.list encU ws)), (4, true, .p (V.list encU xs)), (2, true, .p (uV s)), (1, true, .p (.i who))], [some (ntBox n), some (uRow (R j))]⟩) M ⟨_, ⟨0, Nat.zero_le _, by simp, rfl⟩, ?_⟩ ?_
      · rw [hR0, show (F : Int) + ((0 : Nat) : Int) = F by omega]
        exact z_wkt
      rintro r s' ⟨j, hj, rfl, rfl⟩
      have hRj := hRl j hj
      refine z_go ?_
      apply Sym.cond
      · rfl
      · intro hlt
        have hlt : j < M := by
          simp at hlt
          omega
        obtain ⟨g, e1, hgx, hgw, hst⟩ := hstep j hlt
        have e1 : (gA n)[((F : Int) + (j : Int)).toNat]? = some g := by
          rw [show ((F : Int) + (j : Int)).toNat = (F : Int).toNat + j by omega]
          exact e1
        obtain ⟨x1, e2, e3⟩ : ∃ x1, xs[g.x.toNat]? = some x1 ∧ gx xs g.x = x1 := ⟨_, gx_get hgx, rfl⟩
        have kh := fnRHalf s who (uw ((F : Int) + j))
        rw [show halfT s who (uw ((F : Int) + j)) = halfT s who ((F : Int) + j) by rw [uw_self (by omega)]] at kh
        rw [e3] at hst
        have hj1 : (F : Int) + (j : Int) + 1 = (F : Int) + ((j + 1 : Nat) : Int) := by omega
        clear hstep
        by_cases hw : g.w < 0
        · rw [show gY xs ws g = x1 by rw [gY, if_pos hw, e3]] at hst
          clear e3
          refine z_go ?_
          apply Sym.cond
          · rfl
          · intro h
            exfalso
            simp at h
            omega
          · intro _
            refine z_go ?_
            (apply Sym.drawXL [15, 16] (by kernel_rfl) (by kernel_rfl) (by kernel_rfl))
            have k1 := kh; have k2 := fnROpen x1 x1 (halfT s who ((F : Int) + j)); refine z_xgo ?_
            have a1 : AppH encU (R j) [(opnT x1 x1 (halfT s who ((F : Int) + j))).1, (opnT x1 x1 (halfT s who ((F : Int) + j))).2] := .mk; refine z_go ?_
            refine ⟨_, ?_, _, ⟨j + 1, by omega, rfl, rfl⟩, ?_⟩
            · omega
            · rw [hst]
              exact z_wkt
        · obtain ⟨y1, f1, f2⟩ : ∃ y1, ws[g.w.toNat]? = some y1 ∧ gx ws g.w = y1 := ⟨_, gx_get (by omega), rfl⟩
          rw [show gY xs ws g = y1 by rw [gY, if_neg hw, f2]] at hst
          clear e3 f2
          refine z_go ?_
          apply Sym.cond
          · rfl
          · intro _
            refine z_go ?_
            (apply Sym.drawXL [15, 16] (by kernel_rfl) (by kernel_rfl) (by kernel_rfl))
            have k1 := kh; have k2 := fnROpen x1 y1 (halfT s who ((F : Int) + j)); refine z_xgo ?_
            have a1 : AppH encU (R j) [(opnT x1 y1 (halfT s who ((F : Int) + j))).1, (opnT x1 y1 (halfT s who ((F : Int) + j))).2] := .mk; refine z_go ?_
            refine ⟨_, ?_, _, ⟨j + 1, by omega, rfl, rfl⟩, ?_⟩
            · omega
            · rw [hst]
              exact z_wkt
          · intro h
            exfalso
            simp at h
            omega
      · intro hge
        obtain rfl : j = M := by
          simp at hge
          omega
        refine z_go ?_
        with_reducible first | apply Fin.rt | apply Fin.nx
        exact .cons (.tmp rfl (DVr.list encU _ rfl (fun q => rfl) rfl rfl)) (.cons (.tmp rfl (.of (.of rfl))) .nil)
end Go.Proofs.YtfnbofkhgimkcaaGreat
