/- Layer 8: package gates, function by function. Layer 8: stages, ranges, lines. Layer 8: lines; the document's gates. Layer 8: the document's gates, and what it says of one. Layer 8: the document's Gate and Index. -/
import Derived.Test.YtfnbofkhgimkcaaGreatVA
set_option linter.unusedSimpArgs false
set_option linter.unusedVariables false
namespace Go.Proofs.YtfnbofkhgimkcaaGreat
open Go.RowKit Go.Sy
theorem fnGTotal (n : Nt) : Fn1 Tryz.prog 48 [ntV n] (.i (sumP (ckL n))) := by
  refine Fn1.of (rs := [.i _]) (res := [.tmp 2]) Tryz.call48 Tryz.func48 rfl Tryz.ntmps48 rfl (by simp) fun c hc => ?_
  have k1 := fnCkSums n; refine z_go ?_
  with_reducible first | apply Fin.rt | apply Fin.nx
  exact (.cons (.tmp rfl (.of (.of rfl))) .nil)
theorem fnRGTotal (n : Nt) : Fn1 Tryz.prog 49 [ntV n] (.i (sumP (ckL n))) := by
  refine Fn1.of (rs := [.i _]) (res := [.tmp 2]) Tryz.call49 Tryz.func49 rfl Tryz.ntmps49 rfl (by simp) fun c hc => ?_
  have k1 := fnRSums n; refine z_go ?_
  with_reducible first | apply Fin.rt | apply Fin.nx
  exact (.cons (.tmp rfl (.of (.of rfl))) .nil)
end Go.Proofs.YtfnbofkhgimkcaaGreat
set_option linter.unusedSimpArgs false
set_option linter.unusedVariables false
namespace Go.Proofs.YtfnbofkhgimkcaaGreat
open Go.RowKit Go.Sy
def stI (n : Nt) (j : Nat) : List Int := ((List.range j).filter fun i => decide (ckP n (i : Nat) > 0)).map fun i : Nat => (i : Int)
theorem stI_T {n : Nt} {j : Nat} (h : decide (ckP n (j : Nat) > 0) = true) : stI n (j + 1) = stI n j ++ [(j : Int)] := by
  unfold stI
  rw [List.range_succ, List.filter_append, List.filter_cons_of_pos (by exact h), List.map_append]
  rfl
theorem stI_F {n : Nt} {j : Nat} (h : decide (ckP n (j : Nat) > 0) = false) : stI n (j + 1) = stI n j := by
  unfold stI
  rw [List.range_succ, List.filter_append, List.filter_cons_of_neg (by rw [h]; simp)]
  simp
theorem stI_len (n : Nt) (j : Nat) : (stI n j).length ≤ j := by
  unfold stI
  rw [List.length_map]
  exact Nat.le_trans (List.length_filter_le _ _) (by simp)
theorem stI_bad {n : Nt} (h : ¬ ckE n = 0) (j : Nat) : stI n j = [] := by
  unfold stI
  rw [List.map_eq_nil_iff, List.filter_eq_nil_iff]
  intro i _
  rw [(ck_bad h i).2.2.2]
  simp
abbrev stA (n : Nt) : List Int := stI n n.ls.length
theorem stA_eq (n : Nt) : stA n = (stL n).map fun i : Nat => (i : Int) := rfl
theorem stA_len (n : Nt) : (stA n).length = (stL n).length := by rw [stA_eq, List.length_map]
theorem stA_at {n : Nt} {k i : Nat} (h : (stL n)[k]? = some i) : (stA n)[k]? = some (i : Int) := by rw [stA_eq, List.getElem?_map, h]; rfl
set_option maxHeartbeats 4000000 in
theorem fnGStages (n : Nt) (hn : n.ls.length ≤ 1000) : Fn1 Tryz.prog 42 [ntV n] (V.list encI (stA n)) := by
  refine Fn1.of (rs := [V.list encI _]) (res := [.tmp 2]) Tryz.call42 Tryz.func42 rfl Tryz.ntmps42 rfl (by simp) fun c hc => ?_
  refine z_go ?_
  refine Sym.weak (Le.asRow 3 3 1 rfl rfl rfl z_nrm z_nrm) ?_
  refine Sym.loop (fun k s => ∃ j : Nat, j ≤ n.ls.length ∧ k = n.ls.length - j ∧ s = ⟨[(8, true, .p (.i j)), (7, true, .p (.i n.ls.length)), (3, true, .row 1 (stI n j).length), (1, true, .ptr 0 0)], [some (ntBox n), some (inRow (stI n j))]⟩) n.ls.length ⟨_, ⟨0, Nat.zero_le _, by simp, rfl⟩, z_wkt⟩ ?_
  rintro k s ⟨j, hj, rfl, rfl⟩
  have hlen := stI_len n j
  refine z_go ?_
  apply Sym.cond
  · rfl
  · intro hlt
    simp only [decide_eq_true_eq] at hlt
    have k1 := fnCkProducts n j; refine z_go ?_
    apply Sym.cond
    · rfl
    · intro hp
      have a1 : AppH encI (stI n j) [(j : Int)] := .mk; refine z_go ?_
      refine ⟨_, ?_, _, ⟨j + 1, by omega, rfl, rfl⟩, ?_⟩
      · omega
      · rw [stI_T (by simpa using hp)]
        exact z_wkt
    · intro hp
      refine z_go ?_
      refine ⟨_, ?_, _, ⟨j + 1, by omega, rfl, rfl⟩, ?_⟩
      · omega
      · rw [stI_F (by simpa using hp)]
        exact z_wkt
  · intro hge
    simp only [decide_eq_false_iff_not] at hge
    obtain rfl : j = n.ls.length := by omega
    refine z_go ?_
    with_reducible first | apply Fin.rt | apply Fin.nx
    exact .cons (.tmp rfl (DVr.list encI _ rfl (fun q => rfl) rfl rfl)) .nil
set_option maxHeartbeats 4000000 in
theorem fnRGStages (n : Nt) (hn : n.ls.length ≤ 1000) : Fn1 Tryz.prog 26 [ntV n] (V.list encI (stA n)) := by
  refine Fn1.of (rs := [V.list encI _]) (res := [.tmp 2]) Tryz.call26 Tryz.func26 rfl Tryz.ntmps26 rfl (by simp) fun c hc => ?_
  refine z_go ?_
  refine Sym.weak (Le.asRow 3 3 1 rfl rfl rfl z_nrm z_nrm) ?_
  refine Sym.loop (fun k s => ∃ j : Nat, j ≤ n.ls.length ∧ k = n.ls.length - j ∧ s = ⟨[(4, true, .p (.i j)), (3, true, .row 1 (stI n j).length), (1, true, .ptr 0 0)], [some (ntBox n), some (inRow (stI n j))]⟩) n.ls.length ⟨_, ⟨0, Nat.zero_le _, by simp, rfl⟩, z_wkt⟩ ?_
  rintro k s ⟨j, hj, rfl, rfl⟩
  have hlen := stI_len n j
  have k1 := fnRRight n; refine z_go ?_
  apply Sym.cond
  · rfl
  · intro hlt
    have hlt2 : (j : Int) < n.ls.length ∧ ckE n = 0 := by simpa using hlt
    obtain ⟨el, hel⟩ : ∃ el, n.ls[j]? = some el := ⟨_, List.getElem?_eq_getElem (by omega)⟩
    obtain ⟨_, _, _, _, hk3⟩ := ck_at hlt2.2 hel
    have hpn := ckP_nn hlt2.2 (show j < n.ls.length by omega)
    refine z_go ?_
    apply Sym.cond
    · rfl
    · intro hp
      have a1 : AppH encI (stI n j) [(j : Int)] := .mk; refine z_go ?_
      refine ⟨_, ?_, _, ⟨j + 1, by omega, rfl, rfl⟩, ?_⟩
      · omega
      · rw [stI_T (by
          have hp : ¬ el.kind = 3 := by simpa using hp
          have : ¬ ckP n j = 0 := fun h => hp (hk3.1 h)
          simp only [decide_eq_true_eq]
          omega)]
        exact z_wkt
    · intro hp
      refine z_go ?_
      refine ⟨_, ?_, _, ⟨j + 1, by omega, rfl, rfl⟩, ?_⟩
      · omega
      · rw [stI_F (by
          have hp : el.kind = 3 := by simpa using hp
          rw [hk3.2 hp]
          simp)]
        exact z_wkt
  · intro hge
    have hge2 : ¬ ((j : Int) < n.ls.length ∧ ckE n = 0) := by
      intro hh
      simp [hh.1, hh.2] at hge
    rw [show stA n = stI n j by
      by_cases hE : ckE n = 0
      · rw [show j = n.ls.length by omega]
      · show stI n n.ls.length = stI n j
        rw [stI_bad hE, stI_bad hE]]
    refine z_go ?_
    with_reducible first | apply Fin.rt | apply Fin.nx
    exact .cons (.tmp rfl (DVr.list encI _ rfl (fun q => rfl) rfl rfl)) .nil
theorem sumC_succ {n : Nt} {j i : Nat} (h : (stL n)[j]? = some i) : sumC n ((stL n).take (j + 1)) = sumC n ((stL n).take j) + ckP n i := by
  rw [List.take_add_one, h]
  simp [sumC]
theorem rg_val {n : Nt} {j i : Nat} (h : (stL n)[j]? = some i) : rgM n j = (sumC n ((stL n).take j), ckP n i) := by
  have hj := (List.getElem?_eq_some_iff.1 h).1
  rw [rgM, if_pos (by omega), Int.toNat_natCast]
  simp [List.getD, h]
/-- a stage's sum is small -/
theorem sumC_b (n : Nt) (j : Nat) : 0 ≤ sumC n ((stL n).take j) ∧ sumC n ((stL n).take j) ≤ 512 := by
  have hg := gA_le n
  by_cases hj : j < (stL n).length
  · obtain ⟨i, hi⟩ : ∃ i, (stL n)[j]? = some i := ⟨_, List.getElem?_eq_getElem hj⟩
    have h1 := rg_b n j
    rw [rg_val hi] at h1
    simp only at h1
    omega
  · rw [List.take_of_length_le (by omega)]
    by_cases hE : ckE n = 0
    · rw [stL_sum hE]; omega
    · rw [stL_bad hE]; simp [sumC]
set_option maxHeartbeats 4000000 in
theorem fnGRange (n : Nt) (stage : Int) (hn : n.ls.length ≤ 1000) : Fn1 Tryz.prog 43 [ntV n, .i stage] (.tup [.i (rgM n stage).1, .i (rgM n stage).2]) := by
  refine Fn1.of (rs := [.i _, .i _]) (res := [.tmp 4, .tmp 5]) Tryz.call43 Tryz.func43 rfl Tryz.ntmps43 rfl (by simp) fun c hc => ?_
  have hal := stI_len n n.ls.length
  have hsl := stA_len n
  have hsl2 : (stL n).length ≤ 1000 := by rw [← stA_len]; exact Nat.le_trans (stI_len n _) hn
  have k1 := fnGStages n hn; refine z_go ?_
  refine Sym.loop (fun k s => ∃ j : Nat, j ≤ (stL n).length ∧ k = (stL n).length - j ∧ ¬ (0 ≤ stage ∧ stage < j) ∧ s = ⟨[(13, true, .p (.i j)), (12, true, .p (.i (stA n).length)), (11, true, .p (V.list encI (stA n))), (6, true, .p (.i (sumC n ((stL n).take j)))), (2, true, .ptr 0 0), (1, true, .p (.i stage))], [some (ntBox n)]⟩) (stL n).length ⟨_, ⟨0, Nat.zero_le _, by simp, by omega, rfl⟩, z_wkt⟩ ?_
  rintro k s ⟨j, hj, rfl, hns, rfl⟩
  refine z_go ?_
  apply Sym.cond
  · rfl
  · intro hlt
    simp only [decide_eq_true_eq] at hlt
    have hjl : j < (stL n).length := by omega
    obtain ⟨i, hi⟩ : ∃ i, (stL n)[j]? = some i := ⟨_, List.getElem?_eq_getElem hjl⟩
    have hi2 := stA_at hi
    have hb := rg_b n j
    have hgl := gA_le n
    rw [rg_val hi] at hb
    simp only at hb
    have k1 := fnCkProducts n i; refine z_go ?_
    apply Sym.cond
    · rfl
    · intro he
      have he : (j : Int) = stage := by simpa using he
      subst he
      rw [rg_val hi]
      refine z_go ?_
      with_reducible first | apply Fin.rt | apply Fin.nx
      exact .cons (.tmp rfl (.of (.of rfl))) (.cons (.tmp rfl (.of (.of rfl))) .nil)
    · intro he
      have he : ¬ (j : Int) = stage := by simpa using he
      refine z_go ?_
      refine ⟨_, ?_, _, ⟨j + 1, by omega, rfl, by omega, rfl⟩, ?_⟩
      · omega
      · rw [sumC_succ hi]
        exact z_wkt
  · intro hge
    simp only [decide_eq_false_iff_not] at hge
    rw [rg_no (show ¬ (0 ≤ stage ∧ stage < (stL n).length) by omega)]
    refine z_go ?_
    with_reducible first | apply Fin.rt | apply Fin.nx
    exact .cons (.tmp rfl (.of (.of rfl))) (.cons (.tmp rfl (.of (.of rfl))) .nil)
set_option maxHeartbeats 4000000 in
theorem fnRGRange (n : Nt) (stage : Int) (hn : n.ls.length ≤ 1000) : Fn1 Tryz.prog 27 [ntV n, .i stage] (.tup [.i (rgM n stage).1, .i (rgM n stage).2]) := by
  refine Fn1.of (rs := [.i _, .i _]) (res := [.tmp 4, .tmp 5]) Tryz.call27 Tryz.func27 rfl Tryz.ntmps27 rfl (by simp) fun c hc => ?_
  have hal := stI_len n n.ls.length
  have hsl := stA_len n
  have hsl2 : (stL n).length ≤ 1000 := by rw [← stA_len]; exact Nat.le_trans (stI_len n _) hn
  have k1 := fnRGStages n hn; refine z_go ?_
  apply Sym.cond
  · rfl
  · intro h
    rw [rg_no (show ¬ (0 ≤ stage ∧ stage < (stL n).length) by
      simp at h
      omega)]
    refine z_go ?_
    with_reducible first | apply Fin.rt | apply Fin.nx
    exact .cons (.tmp rfl (.of (.of rfl))) (.cons (.tmp rfl (.of (.of rfl))) .nil)
  · intro h
    have h : 0 ≤ stage ∧ stage < (stL n).length := by
      simp at h
      omega
    obtain ⟨q, rfl⟩ : ∃ q : Nat, stage = q := ⟨stage.toNat, by omega⟩
    obtain ⟨iq, hiq⟩ : ∃ i, (stL n)[q]? = some i := ⟨_, List.getElem?_eq_getElem (by omega)⟩
    have hiq2 := stA_at hiq
    rw [rg_val hiq]
    refine z_go ?_
    refine Sym.loop (fun k s => ∃ j : Nat, j ≤ q ∧ k = q - j ∧ s = ⟨[(8, true, .p (.i j)), (7, true, .p (.i (sumC n ((stL n).take j)))), (6, true, .p (V.list encI (stA n))), (2, true, .ptr 0 0), (1, true, .p (.i q))], [some (ntBox n)]⟩) q ⟨_, ⟨0, Nat.zero_le _, by simp, rfl⟩, z_wkt⟩ ?_
    rintro k s ⟨j, hj, rfl, rfl⟩
    refine z_go ?_
    apply Sym.cond
    · rfl
    · intro hlt
      simp only [decide_eq_true_eq] at hlt
      have hjl : j < (stL n).length := by omega
      obtain ⟨i, hi⟩ : ∃ i, (stL n)[j]? = some i := ⟨_, List.getElem?_eq_getElem hjl⟩
      have hi2 := stA_at hi
      have hb := rg_b n j
      have hgl := gA_le n
      rw [rg_val hi] at hb
      simp only at hb
      have k1 := fnRProducts n i; refine z_go ?_
      refine ⟨_, ?_, _, ⟨j + 1, by omega, rfl, rfl⟩, ?_⟩
      · omega
      · rw [sumC_succ hi]
        exact z_wkt
    · intro hge
      simp only [decide_eq_false_iff_not] at hge
      obtain rfl : j = q := by omega
      have k1 := fnRProducts n iq; refine z_go ?_
      with_reducible first | apply Fin.rt | apply Fin.nx
      exact .cons (.tmp rfl (.of (.of rfl))) (.cons (.tmp rfl (.of (.of rfl))) .nil)
end Go.Proofs.YtfnbofkhgimkcaaGreat
set_option linter.unusedSimpArgs false
set_option linter.unusedVariables false
namespace Go.Proofs.YtfnbofkhgimkcaaGreat
open Go.RowKit Go.Sy
theorem shLast_at {n : Nt} (h : ckE n = 0) : (ckS n)[(((ckS n).length : Int) - 1).toNat]? = some (shLast n) := by
  have hl := ckSn_len h
  rw [hl, show ((((n.ls.length + 1 : Nat)) : Int) - 1).toNat = n.ls.length by omega]
  unfold shLast
  rw [List.getD, List.getElem?_eq_getElem (by omega)]
  rfl
theorem lnM_T {n : Nt} {s : Int} (h : ckE n = 0 ∧ s = (stL n).length) : lnM n s = (2 * sumP (ckL n), shSize (shLast n)) := if_pos h
theorem lnM_F {n : Nt} {s : Int} (h : ¬ (ckE n = 0 ∧ s = (stL n).length)) : lnM n s = (2 * (rgM n s).1, 2 * (rgM n s).2) := if_neg h
set_option maxHeartbeats 4000000 in
theorem fnGLine (n : Nt) (stage : Int) (hn : n.ls.length ≤ 1000) : Fn1 Tryz.prog 31 [ntV n, .i stage] (.tup [.i (lnM n stage).1, .i (lnM n stage).2]) := by
  refine Fn1.of (rs := [.i _, .i _]) (res := [.tmp 4, .tmp 5]) Tryz.call31 Tryz.func31 rfl Tryz.ntmps31 rfl (by simp) fun c hc => ?_
  have hsl := stA_len n
  have hsl2 : (stL n).length ≤ 1000 := by rw [← stA_len]; exact Nat.le_trans (stI_len n _) hn
  have hb := rg_b n stage
  have hgl := gA_le n
  have k1 := fnCkShapes n
  have k2 := fnGStages n hn
  refine z_go ?_
  apply Sym.cond
  · rfl
  · intro h
    have h : ckE n = 0 ∧ stage = (stL n).length := by
      rw [← stA_len]
      simpa using h
    have hal := gA_len h.1
    have hla := shLast_at h.1
    have hsS := ckSn_len h.1
    have hzz := shSize_b (shLast n)
    rw [lnM_T h]
    have k1 := fnGTotal n
    have k2 := fnShSize (shLast n)
    refine z_go ?_
    with_reducible first | apply Fin.rt | apply Fin.nx
    exact .cons (.tmp rfl (.of (.of rfl))) (.cons (.tmp rfl (.of (.of rfl))) .nil)
  · intro h
    have h : ¬ (ckE n = 0 ∧ stage = (stL n).length) := by
      rw [← stA_len]
      intro hh
      simp [hh.1, hh.2] at h
    rw [lnM_F h]
    have k1 := fnGRange n stage hn
    refine z_go ?_
    with_reducible first | apply Fin.rt | apply Fin.nx
    exact .cons (.tmp rfl (.of (.of rfl))) (.cons (.tmp rfl (.of (.of rfl))) .nil)
set_option maxHeartbeats 4000000 in
theorem fnRGLine (n : Nt) (stage : Int) (hn : n.ls.length ≤ 1000) : Fn1 Tryz.prog 32 [ntV n, .i stage] (.tup [.i (lnM n stage).1, .i (lnM n stage).2]) := by
  refine Fn1.of (rs := [.i _, .i _]) (res := [.tmp 4, .tmp 5]) Tryz.call32 Tryz.func32 rfl Tryz.ntmps32 rfl (by simp) fun c hc => ?_
  have hsl := stA_len n
  have hsl2 : (stL n).length ≤ 1000 := by rw [← stA_len]; exact Nat.le_trans (stI_len n _) hn
  have hb := rg_b n stage
  have hgl := gA_le n
  have k1 := fnRShapes n
  have k2 := fnRGStages n hn
  refine z_go ?_
  apply Sym.cond
  · rfl
  · intro h
    have h : ckE n = 0 ∧ stage = (stL n).length := by
      rw [← stA_len]
      simpa using h
    have hal := gA_len h.1
    have hla := shLast_at h.1
    have hsS := ckSn_len h.1
    have hzz := shSize_b (shLast n)
    rw [lnM_T h]
    have k1 := fnRGTotal n
    have k2 := fnRShSize (shLast n)
    refine z_go ?_
    with_reducible first | apply Fin.rt | apply Fin.nx
    exact .cons (.tmp rfl (.of (.of rfl))) (.cons (.tmp rfl (.of (.of rfl))) .nil)
  · intro h
    have h : ¬ (ckE n = 0 ∧ stage = (stL n).length) := by
      rw [← stA_len]
      intro hh
      simp [hh.1, hh.2] at h
    rw [lnM_F h]
    have k1 := fnRGRange n stage hn
    refine z_go ?_
    with_reducible first | apply Fin.rt | apply Fin.nx
    exact .cons (.tmp rfl (.of (.of rfl))) (.cons (.tmp rfl (.of (.of rfl))) .nil)
end Go.Proofs.YtfnbofkhgimkcaaGreat
set_option linter.unusedSimpArgs false
set_option linter.unusedVariables false
namespace Go.Proofs.YtfnbofkhgimkcaaGreat
open Go.RowKit Go.Sy
abbrev gtRow (l : List Gt) : Box := ⟨D.enc encGt l, 60, 5⟩
theorem ckS_le9 (n : Nt) : (ckS n).length ≤ 9 := by
  by_cases h : ckE n = 0
  · have := (ck_len h).2
    omega
  · rw [(ck_bad h 0).2.1]; simp
set_option maxHeartbeats 8000000 in
theorem fnRGAll (n : Nt) (hn : n.ls.length ≤ 1000) : Fn1 Tryz.prog 28 [ntV n] (V.list encGt (gA n)) := by
  refine Fn1.of (rs := [V.list encGt _]) (res := [.tmp 2]) Tryz.call28 Tryz.func28 rfl Tryz.ntmps28 rfl (by simp) fun c hc => ?_
  have hgl := gA_le n
  have hs9 := ckS_le9 n
  have k1 := fnRShapes n; refine z_go ?_
  refine Sym.weak (Le.asRow 5 60 5 rfl rfl rfl z_nrm z_nrm) ?_
  refine Sym.loop (fun r s => ∃ i : Nat, i ≤ (ckS n).length - 1 ∧ r = (ckS n).length - 1 - i ∧ s = ⟨[(6, true, .p (.i i)), (5, true, .row 1 ((gA n).take (gO n i)).length), (4, true, .p (.i (ckE n))), (3, true, .p (V.list encSh (ckS n))), (1, true, .ptr 0 0)], [some (ntBox n), some (gtRow ((gA n).take (gO n i)))]⟩) ((ckS n).length - 1) ⟨_, ⟨0, Nat.zero_le _, by simp, rfl⟩, z_wkt⟩ ?_
  rintro r s ⟨i, hi, rfl, rfl⟩
  have hgi : gO n i ≤ (gA n).length := flat_mono (gB n) hi
  refine z_go ?_
  apply Sym.cond
  · rfl
  · intro hlt
    have hlt : (i : Int) < n.ls.length ∧ ckE n = 0 := by simpa using hlt
    have hE := hlt.2
    have hsl := ckSn_len hE
    have hi1 : i + 1 < (ckS n).length := by omega
    obtain ⟨sh, hsh⟩ : ∃ sh, (ckS n)[i + 1]? = some sh := ⟨_, List.getElem?_eq_getElem hi1⟩
    have hsh2 : (ckS n)[((i : Int) + 1).toNat]? = some sh := hsh
    have hzs := shSize_b sh
    have hgs : gS n i = (shSize sh).toNat := gS_at hsh
    have hgs2 : gS n i ≤ 128 := by omega
    have hgi2 : gO n (i + 1) ≤ (gA n).length := flat_mono (gB n) (by omega)
    have hgB : gO n i + gQ n i (gS n i) = gO n (i + 1) := (gO_succ n i).symm
    have kz := fnRShSize sh
    rw [show shSize sh = ((gS n i : Nat) : Int) by omega] at kz
    refine z_go ?_
    refine Sym.loop (fun r s => ∃ p : Nat, p ≤ gS n i ∧ r = gS n i - p ∧ s = ⟨[(7, true, .p (.i p)), (6, true, .p (.i i)), (5, true, .row 1 ((gA n).take (gO n i + gQ n i p)).length), (4, true, .p (.i (ckE n))), (3, true, .p (V.list encSh (ckS n))), (1, true, .ptr 0 0)], [some (ntBox n), some (gtRow ((gA n).take (gO n i + gQ n i p)))]⟩) (gS n i) ⟨_, ⟨0, Nat.zero_le _, by simp, rfl⟩, z_wkt⟩ ?_
    rintro r s ⟨p, hp, rfl, rfl⟩
    have hgq : gQ n i p ≤ gQ n i (gS n i) := flat_mono (gP n i) hp
    have k1 := kz; refine z_go ?_
    apply Sym.cond
    · rfl
    · intro hltp
      simp only [decide_eq_true_eq] at hltp
      have hp1 : p < gS n i := by omega
      have hgq1 : gQ n i (p + 1) ≤ gQ n i (gS n i) := flat_mono (gP n i) hp1
      have hgq2 : gQ n i (p + 1) = gQ n i p + (tmT n i p).length := by rw [← gP_len]; exact flat_succ (gP n i) p
      have hat : ∀ (k : Nat) (t : Tm), (tmT n i p)[k]? = some t → (gA n)[gO n i + gQ n i p + k]? = some ⟨i, p, k, t.x, t.w⟩ := fun k t ht => by
        have hk : k < (gP n i p).length := by rw [gP_len]; exact (List.getElem?_eq_some_iff.1 ht).1
        have h1 : (gB n i)[gQ n i p + k]? = (gP n i p)[k]? := flat_at (gP n i) (gS n i) hp1 hk
        have h2 : gQ n i p + k < (gB n i).length := (List.getElem?_eq_some_iff.1 (h1.trans (gP_get ht))).1
        have h3 : (gA n)[gO n i + (gQ n i p + k)]? = (gB n i)[gQ n i p + k]? := flat_at (gB n) _ (show i < (ckS n).length - 1 by omega) h2
        rw [Nat.add_assoc, h3, h1, gP_get ht]
      generalize hT : tmT n i p = T at *
      have kt := fnRTerms n i p
      rw [hT] at kt
      have k1 := kt; refine z_go ?_
      refine Sym.loop (fun r s => ∃ k : Nat, k ≤ T.length ∧ r = T.length - k ∧ s = ⟨[(9, true, .p (.i k)), (8, true, .p (V.list encTm T)), (7, true, .p (.i p)), (6, true, .p (.i i)), (5, true, .row 1 ((gA n).take (gO n i + gQ n i p + k)).length), (4, true, .p (.i (ckE n))), (3, true, .p (V.list encSh (ckS n))), (1, true, .ptr 0 0)], [some (ntBox n), some (gtRow ((gA n).take (gO n i + gQ n i p + k)))]⟩) T.length ⟨_, ⟨0, Nat.zero_le _, by simp, rfl⟩, z_wkt⟩ ?_
      rintro r s ⟨k, hk, rfl, rfl⟩
      have hlr : ((gA n).take (gO n i + gQ n i p + k)).length ≤ 512 := by
        rw [List.length_take]
        omega
      refine z_go ?_
      apply Sym.cond
      · rfl
      · intro hltk
        simp only [decide_eq_true_eq] at hltk
        have hk1 : k < T.length := by omega
        obtain ⟨t, ht⟩ : ∃ t, T[k]? = some t := ⟨_, List.getElem?_eq_getElem hk1⟩
        have hat1 := hat k t ht
        have hnx : (gA n).take (gO n i + gQ n i p + (k + 1)) = (gA n).take (gO n i + gQ n i p + k) ++ [⟨i, p, k, t.x, t.w⟩] := by
          rw [← Nat.add_assoc, List.take_add_one, hat1]
          rfl
        refine z_go ?_
        (apply Sym.drawXL [16] (by kernel_rfl) (by kernel_rfl) (by kernel_rfl))
        have a1 : AppH encGt ((gA n).take (gO n i + gQ n i p + k)) [⟨i, p, k, t.x, t.w⟩] := .mk; refine z_xgo ?_
        refine z_go ?_
        refine ⟨_, ?_, _, ⟨k + 1, by omega, rfl, rfl⟩, ?_⟩
        · omega
        · rw [hnx]
          exact z_wkt
      · intro hge
        simp only [decide_eq_false_iff_not] at hge
        obtain rfl : k = T.length := by omega
        refine z_go ?_
        refine ⟨_, ?_, _, ⟨p + 1, by omega, rfl, rfl⟩, ?_⟩
        · omega
        · rw [hgq2, ← Nat.add_assoc]; exact z_wkt
    · intro hge
      simp only [decide_eq_false_iff_not] at hge
      obtain rfl : p = gS n i := by omega
      refine z_go ?_
      refine ⟨_, ?_, _, ⟨i + 1, by omega, rfl, rfl⟩, ?_⟩
      · omega
      · rw [← hgB]; exact z_wkt
  · intro hge
    have hge2 : ¬ ((i : Int) < n.ls.length ∧ ckE n = 0) := by
      intro hh
      simp [hh.1, hh.2] at hge
    have htk : (gA n).take (gO n i) = gA n := by
      by_cases hE : ckE n = 0
      · have hsl := ckSn_len hE
        rw [show i = n.ls.length by omega, gO_all hE, List.take_length]
      · rw [gA_bad hE]; simp
    rw [htk]
    refine z_go ?_
    with_reducible first | apply Fin.rt | apply Fin.nx
    exact .cons (.tmp rfl (DVr.list encGt _ rfl (fun q => rfl) rfl rfl)) .nil
end Go.Proofs.YtfnbofkhgimkcaaGreat
set_option linter.unusedSimpArgs false
set_option linter.unusedVariables false
namespace Go.Proofs.YtfnbofkhgimkcaaGreat
open Go.RowKit Go.Sy
end Go.Proofs.YtfnbofkhgimkcaaGreat
