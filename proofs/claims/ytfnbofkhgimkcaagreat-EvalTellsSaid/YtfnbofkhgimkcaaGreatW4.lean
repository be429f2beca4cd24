/- Layer 13: what a party has of both parties' lines. -/
import Derived.Test.YtfnbofkhgimkcaaGreatW3
import Derived.Test.YtfnbofkhgimkcaaGreatDC
set_option linter.unusedSimpArgs false
set_option linter.unusedVariables false
namespace Go.Proofs.YtfnbofkhgimkcaaGreat
open Go.RowKit Go.Sy
theorem fnPrdSay (n : Nt) (s who mny : Int) (i m : Nat) (xs ws : List Int) (hE : ckE n = 0) (hi : i < n.ls.length) (hm : GF n i m) (hT : tmFit n i xs.length ws.length) :
    Fn1 Tryz.prog 119 [.agg (prdC n who s i (gO n i : Nat) mny (gS n i : Nat)), V.list encU xs, V.list encU ws] (V.list encU (sayT n s who i xs ws)) := by
  refine Fn1.of (rs := [V.list encU _]) (res := [.tmp 6]) Tryz.call119 Tryz.func119 rfl Tryz.ntmps119 rfl (by simp) fun c hc => ?_
  have ke := fnEachSay n s who mny i m xs ws hE hi hm hT
  refine z_go ?_
  refine SymL.weak (Le.cellRow 3 0 27 1 rfl rfl rfl z_nrm) ?_
  refine SymL.icp 1 [V.list encU xs] rfl (by rw [hc]; exact Nat.zero_le _) (by simp only [Hp.icp, D.icp, D.icpL, Nat.beq, cond_true, cond_false, List.drop_zero, List.set_cons_zero, List.set_cons_succ]; exact rfl) (by simp only [TM.icp, TM.args, D.icp, D.icpL, Nat.beq, cond_true, cond_false, List.drop_zero]; exact rfl) ?_
  refine SymL.icp 2 [V.list encU ws] rfl (by rw [hc]; exact Nat.zero_le _) (by simp only [Hp.icp, D.icp, D.icpL, Nat.beq, cond_true, cond_false, List.drop_zero, List.set_cons_zero, List.set_cons_succ]; exact rfl) (by simp only [TM.icp, TM.args, D.icp, D.icpL, Nat.beq, cond_true, cond_false, List.drop_zero]; exact rfl) ?_
  ((with_reducible apply SymL.callM [3, 4] ke); exact z_ren; exact z_evf; (refine ⟨?_, ?_, trivial⟩ <;> first | exact rfl | (simp only [Box.ren, D.enc, D.renL_p]; exact rfl)); decide; exact rfl; exact rfl; exact z_wrB; exact z_dd; exact z_ren; (simp only [Hp.clean, D.clean, D.cleanL, D.cleanL_p, bne, Nat.reduceBEq, Bool.not_true, Bool.not_false, cond_true, cond_false]; exact z_ren); exact z_cln)
  refine z_go ?_
  with_reducible first | apply Fin.rt | apply Fin.nx
  exact .cons (.tmp rfl (DVr.list encU _ rfl (fun q => rfl) rfl rfl)) .nil
set_option maxHeartbeats 2000000 in
theorem fnHave1 (n : Nt) (who s l' fst mny out : Int) (mine theirs : List Int) (t : Tm) (mk : Tr) (k p : Nat) (l : List Int) (hk : k ≤ 100000) (h1 : 2 * k + 1 < mine.length) (h2 : 2 * k + 1 < theirs.length) (hp : p < l.length) :
    FnB Tryz.prog 121 [.p (.i k), .p (.i p), .p (.agg (encTm t)), .p (trV mk), .p (.ref [V.list encU mine]), .p (.ref [V.list encU theirs]), .ptr 0 0, .p (.ref (prdC n who s l' fst mny out))] [some (uCell 1 l.length), some (uRow l)] (.tup [])
      [some (uCell 1 l.length), some (uRow (l.set p (uw (gx l p + clsT who (sumT (gx mine ((2 * k : Nat) : Int), gx mine ((2 * k + 1 : Nat) : Int)) (gx theirs ((2 * k : Nat) : Int), gx theirs ((2 * k + 1 : Nat) : Int))) mk))))] := by
  refine FnB.of (rs := []) (res := []) Tryz.call121 Tryz.func121 rfl Tryz.ntmps121 rfl (by simp) rfl (by simp [Hp.upTo, D.upToL, D.upTo, D.upToL_p]) fun c hro hc hdead => ?_
  rw [show ((2 * k : Nat) : Int) = 2 * (k : Int) by omega, show ((2 * k + 1 : Nat) : Int) = 2 * (k : Int) + 1 by omega]
  obtain ⟨v1, e1, q1⟩ : ∃ v, mine[(2 * (k : Int)).toNat]? = some v ∧ gx mine (2 * (k : Int)) = v := ⟨_, gx_get (by omega), rfl⟩
  obtain ⟨v2, e2, q2⟩ : ∃ v, mine[(2 * (k : Int) + 1).toNat]? = some v ∧ gx mine (2 * (k : Int) + 1) = v := ⟨_, gx_get (by omega), rfl⟩
  obtain ⟨v3, e3, q3⟩ : ∃ v, theirs[(2 * (k : Int)).toNat]? = some v ∧ gx theirs (2 * (k : Int)) = v := ⟨_, gx_get (by omega), rfl⟩
  obtain ⟨v4, e4, q4⟩ : ∃ v, theirs[(2 * (k : Int) + 1).toNat]? = some v ∧ gx theirs (2 * (k : Int) + 1) = v := ⟨_, gx_get (by omega), rfl⟩
  obtain ⟨v5, e5, q5⟩ : ∃ v, l[(p : Int).toNat]? = some v ∧ gx l p = v := ⟨_, gx_get (by omega), rfl⟩
  rw [q1, q2, q3, q4, q5]
  clear q1 q2 q3 q4 q5
  refine z_go ?_
  (apply Sym.drawXL [25, 26] (by kernel_rfl) (by kernel_rfl) (by kernel_rfl))
  have k1 := fnSumB (v1, v2) (v3, v4); refine z_xgo ?_
  refine z_go ?_
  (apply Sym.drawL 12 (by kernel_rfl) (by kernel_rfl))
  repeat ((with_reducible apply MTo.step1); exact z_gd; exact z_mop; exact rfl)
  ((with_reducible apply MTo.step1); exact z_gd; ((with_reducible apply MOp.loadRow1 (enc := encU) (j := p)); exact z_ev; rfl; rfl; rfl; rfl; (intro q; rfl); exact e5; rfl); exact rfl)
  have k1 := fnClose who (sumT (v1, v2) (v3, v4)) mk; refine z_mt ?_
  ((with_reducible apply SymL.storeRow (enc := encU) p (uw (v5 + clsT who (sumT (v1, v2) (v3, v4)) mk))); exact z_ev; exact z_ev; rfl; rfl; rfl; (intro v hv; rw [List.mem_singleton.1 hv]; rfl); rfl; (intro q; rfl); omega; exact z_wr)
  · exact rfl
  refine z_go ?_
  exact FinB.nxW [] z_wkt .nil
set_option maxHeartbeats 4000000 in
theorem fnEachHave (n : Nt) (s who mny : Int) (i m : Nat) (mine theirs : List Int) (hE : ckE n = 0) (hi : i < n.ls.length) (hm : GF n i m) (h1 : mine.length = 2 * (gB n i).length) (h2 : theirs.length = 2 * (gB n i).length) :
    FnB Tryz.prog 120 [.p (.agg (prdC n who s i (gO n i : Nat) mny (gS n i : Nat))), .clo (.func 121) [] [.p (.ref [V.list encU mine]), .p (.ref [V.list encU theirs]), .ptr 0 0, .p (.ref (prdC n who s i (gO n i : Nat) mny (gS n i : Nat)))]] [some (uCell 1 (gS n i)), some (uRow (List.replicate (gS n i) 0))] (.tup [])
      [some (uCell 1 (gS n i)), some (uRow (rawT n s who i mine theirs))] := by
  refine FnB.of (rs := []) (res := []) Tryz.call120 Tryz.func120 rfl Tryz.ntmps120 rfl (by simp) rfl (by simp [Hp.upTo, D.upToL, D.upTo, D.upToL_p]) fun c hro hc hdead => ?_
  obtain ⟨b1, b2, b3⟩ := gA_512 n i hE hi
  have hgl := gB_len hm
  have hs1 := hm.s2
  obtain ⟨R, hR⟩ : ∃ R : Nat → List Int, ∀ k, R k = hvN s who mine theirs (gO n i : Nat) (gB n i) (gS n i) k := ⟨_, fun _ => rfl⟩
  have hR0 : R 0 = List.replicate (gS n i) 0 := by rw [hR]; rfl
  have hRl : ∀ k, (R k).length = gS n i := fun k => by rw [hR, hvN_len]
  have hRe : rawT n s who i mine theirs = R (gS n i * m) := by
    rw [hR, Nat.mul_comm, ← hgl]
    rfl
  have hstep : ∀ (p j K : Nat) (t : Tm), p < gS n i → j < m → K = p * m + j → (tmT n i p)[j]? = some t → K < (gB n i).length ∧ R (K + 1) = (R K).set p (uw (gx (R K) p + clsT who (sumT (gx mine ((2 * K : Nat) : Int), gx mine ((2 * K + 1 : Nat) : Int)) (gx theirs ((2 * K : Nat) : Int), gx theirs ((2 * K + 1 : Nat) : Int))) (halfT s who ((gO n i : Nat) + K)))) := fun p j K t hp hj hK ht => by
    have hg : (gB n i)[K]? = some ⟨i, p, j, t.x, t.w⟩ := by
      rw [hK, gB_at hm hp hj, gP_get ht]
    refine ⟨(List.getElem?_eq_some_iff.1 hg).1, ?_⟩
    rw [hR, hR, hvN, hg]
    rfl
  rw [hRe]
  clear hRe
  clear hR
  generalize hO : gS n i = O at *
  generalize hF : gO n i = F at *
  refine z_go ?_
  refine Sym.loop (fun k s' => ∃ p : Nat, p ≤ O ∧ k = O - p ∧ s' = ⟨[(10, true, .p (.i p)), (9, true, .p (.i O)), (4, true, .p (.i ((p * m : Nat) : Int))), (2, true, .ptr 2 0), (1, true, .clo (.func 121) [] [.p (.ref [V.list encU mine]), .p (.ref [V.list encU theirs]), .ptr 0 0, .p (.ref (prdC n who s i F mny O))])], [some (uCell 1 O), some (uRow (R (p * m))), some (prdBox n who s i F mny O)]⟩) O ⟨_, ⟨0, Nat.zero_le _, by simp, rfl⟩, ?_⟩ ?_
  · rw [Nat.zero_mul, hR0]
    exact z_wkt
  rintro k s' ⟨p, hp, rfl, rfl⟩
  refine z_go ?_
  apply Sym.cond
  · rfl
  · intro hlt
    simp only [decide_eq_true_eq] at hlt
    have hpO : p < O := by omega
    have hTl : (tmT n i p).length = m := hm.tl p (by omega)
    have hle := hm.le
    have kt0 := fnTerms n i p
    have hst' := fun j K t => hstep p j K t hpO
    generalize tmT n i p = T at *
    have k1 := kt0; refine z_go ?_
    clear k1 kt0
    refine Sym.loop (fun k s' => ∃ j : Nat, j ≤ m ∧ k = m - j ∧ s' = ⟨[(21, true, .p (.i j)), (20, true, .p (.i m)), (19, true, .p (V.list encTm T)), (5, true, .p (.i p)), (10, true, .p (.i p)), (9, true, .p (.i O)), (4, true, .p (.i ((p * m + j : Nat) : Int))), (2, true, .ptr 2 0), (1, true, .clo (.func 121) [] [.p (.ref [V.list encU mine]), .p (.ref [V.list encU theirs]), .ptr 0 0, .p (.ref (prdC n who s i F mny O))])], [some (uCell 1 O), some (uRow (R (p * m + j))), some (prdBox n who s i F mny O)]⟩) m ⟨_, ⟨0, Nat.zero_le _, by simp, rfl⟩, ?_⟩ ?_
    · rw [Nat.add_zero, ← hTl]
      exact z_wkt
    rintro k s' ⟨j, hj, rfl, rfl⟩
    obtain ⟨K, hK⟩ : ∃ K, K = p * m + j := ⟨_, rfl⟩
    have hK1 : p * m + (j + 1) = K + 1 := by omega
    rw [← hK]
    refine z_go ?_
    apply Sym.cond
    · rfl
    · intro hlt
      simp only [decide_eq_true_eq] at hlt
      obtain ⟨t, ht⟩ : ∃ t, T[j]? = some t := ⟨_, List.getElem?_eq_getElem (by omega)⟩
      obtain ⟨hKl, hst⟩ := hst' j K t (by omega) hK ht
      have kh := fnHalf s who (uw ((F : Int) + K))
      rw [show halfT s who (uw ((F : Int) + K)) = halfT s who ((F : Int) + K) by rw [uw_self (by omega)]] at kh
      have kc := fnHave1 n who s i F mny O mine theirs t (halfT s who ((F : Int) + K)) K p (R K) (by omega) (by omega) (by omega) (by rw [hRl]; exact hpO)
      rw [← hst, hRl] at kc
      refine z_go ?_
      (apply Sym.drawL 16 (by kernel_rfl) (by kernel_rfl))
      have k1 := kh; refine z_mt ?_
      ((with_reducible apply SymL.callB [0, 1] kc); exact z_ren; exact z_evf; (refine ⟨?_, ?_, trivial⟩ <;> first | exact rfl | (simp only [Box.ren, D.enc, D.renL_p]; exact rfl)); decide; exact rfl; exact z_wrB; exact z_ren; exact z_ren)
      refine z_go ?_
      refine ⟨_, ?_, _, ⟨j + 1, by omega, rfl, rfl⟩, ?_⟩
      · omega
      · rw [hK1]
        exact z_wkt
    · intro hge
      simp only [decide_eq_false_iff_not] at hge
      obtain rfl : j = m := by omega
      refine z_go ?_
      refine ⟨_, ?_, _, ⟨p + 1, by omega, rfl, rfl⟩, ?_⟩
      · omega
      · rw [show (p + 1) * j = K by rw [hK, Nat.add_mul, Nat.one_mul]]
        exact z_wkt
  · intro hge
    simp only [decide_eq_false_iff_not] at hge
    obtain rfl : p = O := by omega
    refine z_go ?_
    exact FinB.nxW [] z_wkt .nil
end Go.Proofs.YtfnbofkhgimkcaaGreat
