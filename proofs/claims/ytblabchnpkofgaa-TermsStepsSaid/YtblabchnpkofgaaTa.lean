/- Layer 6's laws: the walks of TermsApart and TermsSteps. -/
import Derived.Test.YtblabchnpkofgaaT9
set_option linter.unusedSimpArgs false
set_option linter.unusedVariables false
namespace Go.Proofs.Ytblabchnpkofgaa
open Go.RowKit Go.Sy
theorem modO {a : Int} (O : Nat) (ha : 0 ≤ a) (hO : 0 < O) : 0 ≤ a % (O : Int) ∧ a % (O : Int) < O := ⟨Int.emod_nonneg a (by omega), Int.emod_lt_of_pos a (by omega)⟩
theorem outPos {s : Sh} (h : shRight s = true) : 1 ≤ shSize s := by
  have := shMul h
  unfold shSize
  rw [if_pos h]
  omega
set_option maxHeartbeats 4000000 in
theorem TermsApart_fn (n : Nt) (i a b : Int) (hi : 0 ≤ i ∧ i ≤ 255) (ha : 0 ≤ a ∧ a ≤ 255) (hb : 0 ≤ b ∧ b ≤ 255) : Fn1 Try.prog 12 [ntV n, .x (.int .u8 i), .x (.int .u8 a), .x (.int .u8 b)] (.b true) := by
  refine Fn1.of (rs := [.b true]) (res := [.tmp 8]) Try.call12 Try.func12 rfl Try.ntmps12 rfl (by simp) fun c hc => ?_
  obtain ⟨k, hk, hk7⟩ := mod8 hi
  have k1 := fnHead6; have k2 := fnGreat4 n; refine z_go ?_
  rw [hk]
  apply Sym.cond
  · rfl
  · intro _
    refine z_go ?_
    with_reducible first | apply Fin.rt | apply Fin.nx
    exact (.cons (.tmp rfl (.of (.of rfl))) .nil)
  · intro _
    by_cases hok : tOk n k = true
    · obtain ⟨j, el, cur, hj, hE, hel, g1, g2, g3, g4, g5, g6, g7, g8⟩ := tOk_at hok
      obtain rfl : k = j := by omega
      have hzo := shSize_b (outOf cur el).1
      have hop := outPos g8
      obtain ⟨O, hO⟩ : ∃ O : Nat, shSize (outOf cur el).1 = O := ⟨(shSize (outOf cur el).1).toNat, by omega⟩
      have hO0 : 0 < O := by omega
      obtain ⟨m, hm, hpo, hwo, hF⟩ := tm_facts g2 g3 g4 (ckW n k).1
      have ks := fnSizesOk hE hel g1 g6
      have kss := fnRShapes n
      rw [hO] at ks
      rw [hE] at kss
      obtain ⟨l1, l2, l3⟩ := ck_len hE
      have hjl : k < n.ls.length := (List.getElem?_eq_some_iff.1 hel).1
      have hpa := modO O ha.1 hO0
      have hpb := modO O hb.1 hO0
      obtain ⟨f, hf⟩ := hF (a % (O : Int)) hpa.1 (by omega)
      obtain ⟨g, hg⟩ := hF (b % (O : Int)) hpb.1 (by omega)
      have ka := fnTerms n k (a % (O : Int))
      have kb := fnTerms n k (b % (O : Int))
      rw [(tmT_ok hok g5 _).trans hf.eq] at ka
      rw [(tmT_ok hok g5 _).trans hg.eq] at kb
      have lf : ((List.range m).map f).length = m := by simp
      have lg : ((List.range m).map g).length = m := by simp
      have hg7 : (ckS n)[((k : Int) + 1).toNat]? = some (outOf cur el).1 := g6
      have k1 := ks; refine z_go ?_
      apply Sym.cond
      · rfl
      · intro h
        exact absurd h (by simp)
      · intro _
        have k1 := ka; refine z_go ?_
        refine Sym.loop (fun r s => ∃ j : Nat, j ≤ m ∧ r = m - j ∧ s = ⟨[(15, true, .p (.i j)), (14, true, .p (V.list encTm ((List.range m).map f))), (12, true, .p (.i O)), (10, true, .p (.i k)), (9, true, .p (.b true)), (4, true, .ptr 0 0), (3, true, .p (.x (.int .u8 b))), (2, true, .p (.x (.int .u8 a)))], [some (ntBox n)]⟩) m ⟨_, ⟨0, Nat.zero_le _, by simp, rfl⟩, z_wkt⟩ ?_
        rintro r s ⟨j, hj, rfl, rfl⟩
        refine z_go ?_
        apply Sym.cond
        · rfl
        · intro hlt
          simp only [decide_eq_true_eq, lf] at hlt
          have hjm : j < m := by omega
          have hel2 : ((List.range m).map f)[j]? = some (f j) := by simp [hjm]
          refine z_go ?_
          refine Sym.loop (fun r s => ∃ h : Nat, h ≤ j ∧ r = j - h ∧ s = ⟨[(16, true, .p (.i h)), (15, true, .p (.i j)), (14, true, .p (V.list encTm ((List.range m).map f))), (12, true, .p (.i O)), (10, true, .p (.i k)), (9, true, .p (.b true)), (4, true, .ptr 0 0), (3, true, .p (.x (.int .u8 b))), (2, true, .p (.x (.int .u8 a)))], [some (ntBox n)]⟩) j ⟨_, ⟨0, Nat.zero_le _, by simp, rfl⟩, z_wkt⟩ ?_
          rintro r s ⟨h, hh, rfl, rfl⟩
          refine z_go ?_
          apply Sym.cond
          · rfl
          · intro hlt2
            simp only [decide_eq_true_eq] at hlt2
            have hhm : h < m := by omega
            have hel3 : ((List.range m).map f)[h]? = some (f h) := by simp [hhm]
            refine z_go ?_
            apply Sym.cond
            · rfl
            · intro hbad
              exfalso
              simp at hbad
              rcases hbad with e | ⟨e, e2⟩
              · have := hf.inj j h hjm hhm e
                omega
              · by_cases hw0 : wOf cur el = 0
                · have := hf.w0 hw0 j hjm
                  omega
                · rw [hf.ww hw0 j hjm, hf.ww hw0 h hhm] at e
                  omega
            · intro _
              refine z_go ?_
              refine ⟨_, ?_, _, ⟨h + 1, by omega, rfl, rfl⟩, z_wkt⟩
              omega
          · intro _
            refine z_go ?_
            refine ⟨_, ?_, _, ⟨j + 1, by omega, rfl, rfl⟩, z_wkt⟩
            omega
        · intro _
          have kofa := fnROf (outOf cur el).1 (a % (O : Int))
          have kofb := fnROf (outOf cur el).1 (b % (O : Int))
          have k1 := kb; have k2 := kss; have k3 := kofa; have k4 := kofb; refine z_go ?_
          apply Sym.cond
          · rfl
          · intro hbad
            exfalso
            simp at hbad
          · intro _
            refine z_go ?_
            refine Sym.loop (fun r s => ∃ j : Nat, j ≤ m ∧ r = m - j ∧ s = ⟨[(28, true, .p (.i j)), (24, true, .p (.i (shOf (outOf cur el).1 (b % (O : Int))).1.1)), (20, true, .p (.i (shOf (outOf cur el).1 (a % (O : Int))).1.1)), (17, true, .p (V.list encTm ((List.range m).map g))), (14, true, .p (V.list encTm ((List.range m).map f))), (9, true, .p (.b true))], [some (ntBox n)]⟩) m ⟨_, ⟨0, Nat.zero_le _, by simp, rfl⟩, z_wkt⟩ ?_
            rintro r s ⟨j, hj, rfl, rfl⟩
            refine z_go ?_
            apply Sym.cond
            · rfl
            · intro hlt
              simp only [decide_eq_true_eq, lf] at hlt
              have hjm : j < m := by omega
              have hel2 : ((List.range m).map f)[j]? = some (f j) := by simp [hjm]
              have hel3 : ((List.range m).map g)[j]? = some (g j) := by simp [hjm]
              refine z_go ?_
              apply Sym.cond
              · rfl
              · intro hbad
                exfalso
                simp at hbad
                by_cases hw0 : wOf cur el = 0
                · have e1 := hf.w0 hw0 j hjm
                  have e2 := hg.w0 hw0 j hjm
                  rw [e1, e2] at hbad
                  simp at hbad
                · rw [hf.ww hw0 j hjm, hg.ww hw0 j hjm] at hbad
                  rcases hbad with ⟨e, e2⟩ | ⟨⟨e, e2⟩, e3⟩
                  · rw [e] at e2
                    exact e2 rfl
                  · refine e (Int.eq_of_mul_eq_mul_right (a := (m : Int)) (by omega) ?_)
                    omega
              · intro _
                refine z_go ?_
                refine ⟨_, ?_, _, ⟨j + 1, by omega, rfl, rfl⟩, z_wkt⟩
                omega
            · intro _
              refine z_go ?_
              with_reducible first | apply Fin.rt | apply Fin.nx
              exact (.cons (.tmp rfl (.of (.of rfl))) .nil)
    · rw [Bool.not_eq_true] at hok
      have k1 := fnSizesBad hok; refine z_go ?_
      apply Sym.cond
      · rfl
      · intro _
        refine z_go ?_
        with_reducible first | apply Fin.rt | apply Fin.nx
        exact (.cons (.tmp rfl (.of (.of rfl))) .nil)
      · intro h
        exact absurd h (by simp)
set_option maxHeartbeats 4000000 in
theorem TermsSteps_fn (n : Nt) (i a : Int) (hi : 0 ≤ i ∧ i ≤ 255) (ha : 0 ≤ a ∧ a ≤ 255) : Fn1 Try.prog 14 [ntV n, .x (.int .u8 i), .x (.int .u8 a)] (.b true) := by
  refine Fn1.of (rs := [.b true]) (res := [.tmp 6]) Try.call14 Try.func14 rfl Try.ntmps14 rfl (by simp) fun c hc => ?_
  obtain ⟨k, hk, hk7⟩ := mod8 hi
  have k1 := fnHead6; have k2 := fnGreat4 n; refine z_go ?_
  rw [hk]
  apply Sym.cond
  · rfl
  · intro _
    refine z_go ?_
    with_reducible first | apply Fin.rt | apply Fin.nx
    exact (.cons (.tmp rfl (.of (.of rfl))) .nil)
  · intro _
    by_cases hok : tOk n k = true
    · obtain ⟨j, el, cur, hj, hE, hel, g1, g2, g3, g4, g5, g6, g7, g8⟩ := tOk_at hok
      obtain rfl : k = j := by omega
      have hzo := shSize_b (outOf cur el).1
      have hzi := shSize_b cur
      have hop := outPos g8
      obtain ⟨O, hO⟩ : ∃ O : Nat, shSize (outOf cur el).1 = O := ⟨(shSize (outOf cur el).1).toNat, by omega⟩
      have hO0 : 0 < O := by omega
      have ks := fnSizesOk hE hel g1 g6
      have kss := fnRShapes n
      rw [hO] at ks
      rw [hE] at kss
      obtain ⟨l1, l2, l3⟩ := ck_len hE
      have hjl : k < n.ls.length := (List.getElem?_eq_some_iff.1 hel).1
      have hg7 : (ckS n)[((k : Int) + 1).toNat]? = some (outOf cur el).1 := g6
      have hpa := modO O ha.1 hO0
      have k1 := ks; refine z_go ?_
      apply Sym.cond
      · rfl
      · intro _
        refine z_go ?_
        with_reducible first | apply Fin.rt | apply Fin.nx
        exact (.cons (.tmp rfl (.of (.of rfl))) .nil)
      · intro hk1
        have hk1 : el.kind = 1 := by simpa using hk1
        have hbc : shConv cur el.out el.size el.step = ((outOf cur el).1, true) := by
          rw [fits1 hk1] at g3 ⊢
          rw [← g3]
        obtain ⟨c1, c2, c3, c4, c5, c6⟩ := conv_fit g2 hbc
        obtain ⟨b1, b2, b3, b4⟩ := shRight_iff.1 g8
        have hof : shOf (outOf cur el).1 (a % (O : Int)) = ((a % (O : Int) / (outOf cur el).1.w / (outOf cur el).1.h, a % (O : Int) / (outOf cur el).1.w % (outOf cur el).1.h, a % (O : Int) % (outOf cur el).1.w), true) := if_pos ⟨hpa.1, by omega⟩
        obtain ⟨hin, hpos, _⟩ := of_in g8 (i := a % (O : Int)) (by rw [hof])
        obtain ⟨i1, i2, i3⟩ := inS_iff.1 hin
        have kofa := fnROf (outOf cur el).1 (a % (O : Int))
        have k1 := kss; have k2 := kofa; refine z_go ?_
        apply Sym.cond
        · rfl
        · intro _
          refine z_go ?_
          with_reducible first | apply Fin.rt | apply Fin.nx
          exact (.cons (.tmp rfl (.of (.of rfl))) .nil)
        · intro hx1
          simp only [decide_eq_false_iff_not] at hx1
          have hin2 : inS (outOf cur el).1 (shOf (outOf cur el).1 (a % (O : Int))).1.1 (shOf (outOf cur el).1 (a % (O : Int))).1.2.1 ((shOf (outOf cur el).1 (a % (O : Int))).1.2.2 + 1) = true := inS_iff.2 ⟨i1, i2, by omega, by omega⟩
          have hp1 : pos (outOf cur el).1 (shOf (outOf cur el).1 (a % (O : Int))).1.1 (shOf (outOf cur el).1 (a % (O : Int))).1.2.1 ((shOf (outOf cur el).1 (a % (O : Int))).1.2.2 + 1) = a % (O : Int) + 1 := by
            have h := hpos
            unfold pos at h ⊢
            omega
          have hof2 := pos_of g8 hin2
          have hb2 := (pos_in g8 hin2).2.2.2.2.2.2
          have hzb : shSize (outOf cur el).1 = (outOf cur el).1.c * (outOf cur el).1.h * (outOf cur el).1.w := by simp [shSize, g8]
          rw [hp1] at hof2 hb2
          rw [← hzb] at hb2
          have hca := cv_get g2 hbc (p := a % (O : Int)) ⟨hpa.1, by omega⟩ (ckW n k).1
          have hcb := cv_get g2 hbc (p := a % (O : Int) + 1) hb2 (ckW n k).1
          have hia := fun {q : Nat} => cv_in g2 hbc (p := a % (O : Int)) ⟨hpa.1, by omega⟩ (q := q)
          have hib := fun {q : Nat} => cv_in g2 hbc (p := a % (O : Int) + 1) hb2 (q := q)
          rw [hof2] at hcb hib
          simp only at hcb hib
          have ka := fnTerms n k (a % (O : Int))
          have kb := fnTerms n k (a % (O : Int) + 1)
          have hta : tmT n k (a % (O : Int)) = cvT cur (outOf cur el).1 el (ckW n k).1 (a % (O : Int)) := by
            rw [tmT_ok hok g5]
            unfold tmX
            rw [if_pos ⟨hpa.1, by simp only; omega⟩]
            exact if_pos hk1
          have htb : tmT n k (a % (O : Int) + 1) = cvT cur (outOf cur el).1 el (ckW n k).1 (a % (O : Int) + 1) := by
            rw [tmT_ok hok g5]
            unfold tmX
            rw [if_pos hb2]
            exact if_pos hk1
          rw [hta, hca] at ka
          rw [htb, hcb] at kb
          have hmb : cur.c.toNat * (el.size.toNat * el.size.toNat) ≤ 8 * 144 := by
            obtain ⟨a1, a2, a3, a4⟩ := shRight_iff.1 g2
            exact Nat.mul_le_mul (by omega) (Nat.mul_le_mul (show el.size.toNat ≤ 12 by omega) (show el.size.toNat ≤ 12 by omega))
          generalize hM : cur.c.toNat * (el.size.toNat * el.size.toNat) = M at *
          generalize hF1 : (fun q : Nat => cvTm cur el.size.toNat (ckW n k).1 (shOf (outOf cur el).1 (a % (O : Int))).1.1 ((q / (el.size.toNat * el.size.toNat) : Nat) : Int) ((shOf (outOf cur el).1 (a % (O : Int))).1.2.1 * el.step) ((shOf (outOf cur el).1 (a % (O : Int))).1.2.2 * el.step) (q % (el.size.toNat * el.size.toNat))) = F1 at *
          generalize hF2 : (fun q : Nat => cvTm cur el.size.toNat (ckW n k).1 (shOf (outOf cur el).1 (a % (O : Int))).1.1 ((q / (el.size.toNat * el.size.toNat) : Nat) : Int) ((shOf (outOf cur el).1 (a % (O : Int))).1.2.1 * el.step) (((shOf (outOf cur el).1 (a % (O : Int))).1.2.2 + 1) * el.step) (q % (el.size.toNat * el.size.toNat))) = F2 at *
          have hstep : ∀ q, q < M → (F2 q).x = (F1 q).x + el.step ∧ (F2 q).w = (F1 q).w ∧ 0 ≤ (F1 q).x ∧ (F1 q).x ≤ 200 := by
            intro q hq
            rw [← hF1, ← hF2]
            show shAt cur _ _ _ = shAt cur _ _ _ + _ ∧ _ = _ ∧ 0 ≤ shAt cur _ _ _ ∧ shAt cur _ _ _ ≤ 200
            rw [shAt_ok g2 (hia hq), shAt_ok g2 (hib hq)]
            have hb3 := pos_in g2 (hia hq)
            have hz2 : shSize cur = cur.c * cur.h * cur.w := by simp [shSize, g2]
            refine ⟨?_, rfl, by omega, by omega⟩
            unfold pos
            rw [Int.add_mul, Int.one_mul]
            omega
          have lf : ((List.range M).map F1).length = M := by simp
          have k1 := ka; have k2 := kb; refine z_go ?_
          apply Sym.cond
          · rfl
          · intro hbad
            exfalso
            simp at hbad
          · intro _
            refine z_go ?_
            refine Sym.loop (fun r s => ∃ j : Nat, j ≤ M ∧ r = M - j ∧ s = ⟨[(21, true, .p (.i j)), (20, true, .p (V.list encTm ((List.range M).map F2))), (19, true, .p (V.list encTm ((List.range M).map F1))), (8, true, .p (.i k)), (7, true, .p (.b true)), (3, true, .ptr 0 0)], [some (ntBox n)]⟩) M ⟨_, ⟨0, Nat.zero_le _, by simp, rfl⟩, z_wkt⟩ ?_
            rintro r s ⟨j, hj, rfl, rfl⟩
            refine z_go ?_
            apply Sym.cond
            · rfl
            · intro hlt
              simp only [decide_eq_true_eq, lf] at hlt
              have hjm : j < M := by omega
              have hel2 : ((List.range M).map F1)[j]? = some (F1 j) := by simp [hjm]
              have hel3 : ((List.range M).map F2)[j]? = some (F2 j) := by simp [hjm]
              obtain ⟨s1, s2, s3, s4⟩ := hstep j hjm
              refine z_go ?_
              apply Sym.cond
              · rfl
              · intro hbad
                exfalso
                simp [s1, s2] at hbad
              · intro _
                refine z_go ?_
                refine ⟨_, ?_, _, ⟨j + 1, by omega, rfl, rfl⟩, z_wkt⟩
                omega
            · intro _
              refine z_go ?_
              with_reducible first | apply Fin.rt | apply Fin.nx
              exact (.cons (.tmp rfl (.of (.of rfl))) .nil)
    · rw [Bool.not_eq_true] at hok
      have kbad := fnSizesBad hok
      apply Sym.skip
      apply thenS.nx
      apply Sym.seq
      apply Sym.regionL
      have k1 := kbad; refine z_s1 ?_
      apply Sym.seq
      apply Sym.seq
      apply Sym.regionL
      iterate 6 ((with_reducible apply SymL.opr); exact z_gd; exact z_mop; exact rfl)
      iterate 4 ((with_reducible apply SymL.opr); exact z_gd; exact MOp.off rfl; exact rfl)
      ((with_reducible apply SymL.opr); exact z_gd; ((with_reducible apply MOp.pickOrT); exact z_ev; rfl); exact rfl)
      refine z_go ?_
      apply Sym.cond
      · rfl
      · intro _
        refine z_go ?_
        with_reducible first | apply Fin.rt | apply Fin.nx
        exact (.cons (.tmp rfl (.of (.of rfl))) .nil)
      · intro h
        exact absurd h (by simp)
end Go.Proofs.Ytblabchnpkofgaa
