/- Layer 6's own answer: Terms, Parts, SameTerms, SameInts; the laws' sizes. -/
import Derived.Test.YtblabchnpkofgaaT6
set_option linter.unusedSimpArgs false
set_option linter.unusedVariables false
namespace Go.Proofs.Ytblabchnpkofgaa
open Go.RowKit Go.Sy
theorem fnRSameT (a b : List Tm) (ha : a.length ≤ 1000000) : Fn1 Try.prog 41 [V.list encTm a, V.list encTm b] (.b (a == b)) := by
  refine Fn1.of (rs := [.b _]) (res := [.tmp 4]) Try.call41 Try.func41 rfl Try.ntmps41 rfl (by simp) fun c hc => ?_
  refine z_go ?_
  apply Sym.cond
  · rfl
  · intro h
    have h : ¬ (a.length : Int) = b.length := by simpa using h
    rw [show (a == b) = false by
      rw [beq_eq_false_iff_ne]
      rintro rfl
      exact h rfl]
    refine z_go ?_
    with_reducible first | apply Fin.rt | apply Fin.nx
    exact (.cons (.tmp rfl (.of (.of rfl))) .nil)
  · intro h
    have h : (a.length : Int) = b.length := by simpa using h
    refine z_go ?_
    refine Sym.loop (fun k s => ∃ i : Nat, i ≤ a.length ∧ a.take i = b.take i ∧ k = a.length - i ∧ s = ⟨[(5, true, .p (.i i)), (1, true, .p (V.list encTm b)), (0, true, .p (V.list encTm a))], []⟩) a.length ⟨_, ⟨0, Nat.zero_le _, by simp, by simp, rfl⟩, z_wkt⟩ ?_
    rintro k s ⟨i, hi, heq, rfl, rfl⟩
    refine z_go ?_
    apply Sym.cond
    · rfl
    · intro hlt
      simp only [decide_eq_true_eq] at hlt
      obtain ⟨x, hx⟩ : ∃ x, a[i]? = some x := ⟨_, List.getElem?_eq_getElem (by omega)⟩
      obtain ⟨y, hy⟩ : ∃ y, b[i]? = some y := ⟨_, List.getElem?_eq_getElem (by omega)⟩
      refine z_go ?_
      apply Sym.cond
      · rfl
      · intro hn
        rw [show (a == b) = false by
          rw [beq_eq_false_iff_ne]
          rintro rfl
          rw [hx] at hy
          injection hy with hy
          subst hy
          simp at hn]
        refine z_go ?_
        with_reducible first | apply Fin.rt | apply Fin.nx
        exact (.cons (.tmp rfl (.of (.of rfl))) .nil)
      · intro hn
        have hxy : x = y := by
          cases x
          cases y
          simpa using hn
        refine z_go ?_
        refine ⟨_, ?_, _, ⟨i + 1, by omega, ?_, rfl, rfl⟩, z_wkt⟩
        · omega
        · rw [List.take_add_one, List.take_add_one, hx, hy, heq, hxy]
    · intro hge
      simp only [decide_eq_false_iff_not] at hge
      obtain rfl : i = a.length := by omega
      rw [List.take_length, show a.length = b.length by omega, List.take_length] at heq
      rw [show (a == b) = true by rw [heq]; exact beq_self_eq_true b]
      refine z_go ?_
      with_reducible first | apply Fin.rt | apply Fin.nx
      exact (.cons (.tmp rfl (.of (.of rfl))) .nil)
theorem fnRSameI (a b : List Int) (ha : a.length ≤ 1000000) : Fn1 Try.prog 44 [V.list encI a, V.list encI b] (.b (a == b)) := by
  refine Fn1.of (rs := [.b _]) (res := [.tmp 4]) Try.call44 Try.func44 rfl Try.ntmps44 rfl (by simp) fun c hc => ?_
  refine z_go ?_
  apply Sym.cond
  · rfl
  · intro h
    have h : ¬ (a.length : Int) = b.length := by simpa using h
    rw [show (a == b) = false by
      rw [beq_eq_false_iff_ne]
      rintro rfl
      exact h rfl]
    refine z_go ?_
    with_reducible first | apply Fin.rt | apply Fin.nx
    exact (.cons (.tmp rfl (.of (.of rfl))) .nil)
  · intro h
    have h : (a.length : Int) = b.length := by simpa using h
    refine z_go ?_
    refine Sym.loop (fun k s => ∃ i : Nat, i ≤ a.length ∧ a.take i = b.take i ∧ k = a.length - i ∧ s = ⟨[(5, true, .p (.i i)), (1, true, .p (V.list encI b)), (0, true, .p (V.list encI a))], []⟩) a.length ⟨_, ⟨0, Nat.zero_le _, by simp, by simp, rfl⟩, z_wkt⟩ ?_
    rintro k s ⟨i, hi, heq, rfl, rfl⟩
    refine z_go ?_
    apply Sym.cond
    · rfl
    · intro hlt
      simp only [decide_eq_true_eq] at hlt
      obtain ⟨x, hx⟩ : ∃ x, a[i]? = some x := ⟨_, List.getElem?_eq_getElem (by omega)⟩
      obtain ⟨y, hy⟩ : ∃ y, b[i]? = some y := ⟨_, List.getElem?_eq_getElem (by omega)⟩
      refine z_go ?_
      apply Sym.cond
      · rfl
      · intro hn
        rw [show (a == b) = false by
          rw [beq_eq_false_iff_ne]
          rintro rfl
          rw [hx] at hy
          injection hy with hy
          subst hy
          simp at hn]
        refine z_go ?_
        with_reducible first | apply Fin.rt | apply Fin.nx
        exact (.cons (.tmp rfl (.of (.of rfl))) .nil)
      · intro hn
        have hxy : x = y := by
          simpa using hn
        refine z_go ?_
        refine ⟨_, ?_, _, ⟨i + 1, by omega, ?_, rfl, rfl⟩, z_wkt⟩
        · omega
        · rw [List.take_add_one, List.take_add_one, hx, hy, heq, hxy]
    · intro hge
      simp only [decide_eq_false_iff_not] at hge
      obtain rfl : i = a.length := by omega
      rw [List.take_length, show a.length = b.length by omega, List.take_length] at heq
      rw [show (a == b) = true by rw [heq]; exact beq_self_eq_true b]
      refine z_go ?_
      with_reducible first | apply Fin.rt | apply Fin.nx
      exact (.cons (.tmp rfl (.of (.of rfl))) .nil)
set_option maxHeartbeats 2000000 in
theorem fnRTerms (n : Nt) (i p : Int) : Fn1 Try.prog 43 [ntV n, .i i, .i p] (V.list encTm (tmT n i p)) := by
  refine Fn1.of (rs := [V.list encTm _]) (res := [.tmp 6]) Try.call43 Try.func43 rfl Try.ntmps43 rfl (by simp) fun c hc => ?_
  by_cases hok : tOk n i = true
  · obtain ⟨j, el, cur, rfl, hE, hel, g1, g2, g3, g4, g5, g6, g7, g8⟩ := tOk_at hok
    have hz := shSize_b (outOf cur el).1
    have hza := shSize_b cur
    have hjl : j < n.ls.length := (List.getElem?_eq_some_iff.1 hel).1
    obtain ⟨l1, l2, l3⟩ := ck_len hE
    have g6' : (ckS n)[((j : Int) + 1).toNat]? = some (outOf cur el).1 := g6
    have k0 := fnRShapes n
    rw [hE] at k0
    rw [tmT_ok hok g5]
    have k1 := k0; have k2 := fnRShSize (outOf cur el).1; refine z_go ?_
    apply Sym.cond
    · rfl
    · intro h
      rw [show tmX (lxOf cur el) (ckW n j).1 p = [] by
        unfold tmX
        rw [if_neg]
        simp at h
        simp only
        omega]
      refine z_go ?_
      with_reducible first | apply Fin.rt | apply Fin.nx
      exact .cons (.tmp rfl (.of (.mk rfl z_vle))) .nil
    · intro h
      have hp : 0 ≤ p ∧ p < shSize (outOf cur el).1 := by
        simp at h
        omega
      rw [show tmX (lxOf cur el) (ckW n j).1 p = _ from if_pos hp]
      simp only
      have k1 := fnRWeights n j; refine z_go ?_
      apply Sym.cond
      · rfl
      · intro hk
        have hk : el.kind = 1 := by simpa using hk
        rw [if_pos hk]
        have hb : shConv cur el.out el.size el.step = ((outOf cur el).1, true) := by
          rw [fits1 hk] at g3 ⊢
          rw [← g3]
        have k1 := fnRConvT el cur (outOf cur el).1 (ckW n j).1 p g2 hb g7; refine z_go ?_
        with_reducible first | apply Fin.rt | apply Fin.nx
        exact .cons (.tmp rfl (.of (.mk rfl z_vle))) .nil
      · intro k1
        have k1 : ¬ el.kind = 1 := by simpa using k1
        rw [if_neg k1]
        refine z_go ?_
        apply Sym.cond
        · rfl
        · intro hk
          have hk : el.kind = 2 := by simpa using hk
          rw [if_neg (by omega), if_pos hk]
          refine z_go ?_
          with_reducible first | apply Fin.rt | apply Fin.nx
          exact .cons (.tmp rfl (.of (.mk rfl z_vle))) .nil
        · intro k2
          have k2 : ¬ el.kind = 2 := by simpa using k2
          refine z_go ?_
          apply Sym.cond
          · rfl
          · intro hk
            have hk : el.kind = 3 := by simpa using hk
            rw [if_neg (by omega), if_neg (by omega)]
            refine z_go ?_
            with_reducible first | apply Fin.rt | apply Fin.nx
            exact .cons (.tmp rfl (.of (.mk rfl z_vle))) .nil
          · intro k3
            have k3 : ¬ el.kind = 3 := by simpa using k3
            rw [if_pos (by omega)]
            obtain ⟨m, hm⟩ : ∃ m : Nat, shSize cur = m := ⟨(shSize cur).toNat, by omega⟩
            have ks := fnRShSize cur
            rw [hm] at ks ⊢
            rw [Int.toNat_natCast]
            generalize (ckW n j).1 = wt at *
            have hb := mulB (a := p) (b := (m : Int)) (A := 128) (B := 128) (by omega) (by omega)
            have k1 := ks; refine z_go ?_
            refine Sym.weak (Le.asRow 11 58 2 rfl rfl rfl z_nrm z_nrm) ?_
            refine Sym.loop (fun k s => ∃ q : Nat, q ≤ m ∧ k = m - q ∧ s = ⟨[(13, true, .p (.i q)), (12, true, .p (.i m)), (11, true, .row 1 (dnT m wt p |>.take q).length), (9, true, .p (.i wt)), (2, true, .p (.i p))], [some (ntBox n), some (tmRow ((dnT m wt p).take q))]⟩) m ⟨_, ⟨0, Nat.zero_le _, by simp, rfl⟩, z_wkt⟩ ?_
            rintro k s ⟨q, hq, rfl, rfl⟩
            refine z_go ?_
            apply Sym.cond
            · rfl
            · intro hlt
              simp only [decide_eq_true_eq] at hlt
              have hlen : ((dnT m wt p).take q).length ≤ 1000 := by simp [dnT]; omega
              have hnext : (dnT m wt p).take (q + 1) = (dnT m wt p).take q ++ [⟨(q : Int), wt + p * (m : Int) + (q : Int)⟩] := by
                rw [List.take_add_one]
                congr 1
                simp [dnT, show q < m by omega]
              have a1 : AppH encTm ((dnT m wt p).take q) [⟨(q : Int), wt + p * (m : Int) + (q : Int)⟩] := .mk; refine z_go ?_
              refine ⟨_, ?_, _, ⟨q + 1, by omega, rfl, rfl⟩, ?_⟩
              · omega
              · rw [hnext]
                exact z_wkt
            · intro hge
              simp only [decide_eq_false_iff_not] at hge
              obtain rfl : q = m := by omega
              rw [List.take_of_length_le (by simp [dnT])]
              refine z_go ?_
              with_reducible first | apply Fin.rt | apply Fin.nx
              exact .cons (.tmp rfl (DVr.list encTm _ rfl (fun q => rfl) rfl rfl)) .nil
  · rw [Bool.not_eq_true] at hok
    rw [show tmT n i p = [] by simp [tmT, hok]]
    have hok : ((ckE n != 0 || decide (i < 0)) || decide (i ≥ (n.ls.length : Int))) = true := by
      simp only [tOk, Bool.not_eq_false'] at hok
      exact hok
    have k1 := fnRShapes n; refine z_go ?_
    ((with_reducible apply SymL.opr); exact z_gd; exact MOp.off (by rw [hok]; rfl); exact rfl)
    ((with_reducible apply SymL.opr); exact z_gd; exact MOp.off (by rw [hok]; rfl); exact rfl)
    ((with_reducible apply SymL.opr); exact z_gd; exact MOp.off (by rw [hok]; rfl); exact rfl)
    ((with_reducible apply SymL.opr); exact z_gd; exact MOp.off (by rw [hok]; rfl); exact rfl)
    ((with_reducible apply SymL.opr); exact z_gd; ((with_reducible apply MOp.pickOrT); exact z_ev; rw [hok]; rfl); exact rfl)
    refine z_go ?_
    apply Sym.cond
    · rfl
    · intro h
      refine z_go ?_
      with_reducible first | apply Fin.rt | apply Fin.nx
      exact .cons (.tmp rfl (.of (.mk rfl z_vle))) .nil
    · intro h
      cases h
theorem plP_rk (a : Sh) (z : Nat) (c y0 x0 : Int) (r k : Nat) (hk : k < z) : plP a z c y0 x0 (r * z + k) = shAt a c (y0 + r) (x0 + k) := by
  have e1 : (r * z + k) / z = r := by
    rw [Nat.mul_comm, Nat.mul_add_div (by omega), Nat.div_eq_of_lt hk, Nat.add_zero]
  have e2 : (r * z + k) % z = k := by
    rw [Nat.mul_comm, Nat.mul_add_mod, Nat.mod_eq_of_lt hk]
  unfold plP
  rw [e1, e2]
set_option maxHeartbeats 2000000 in
theorem fnRParts (n : Nt) (i p : Int) : Fn1 Try.prog 46 [ntV n, .i i, .i p] (V.list encI (ptT n i p)) := by
  refine Fn1.of (rs := [V.list encI _]) (res := [.tmp 6]) Try.call46 Try.func46 rfl Try.ntmps46 rfl (by simp) fun c hc => ?_
  by_cases hok : tOk n i = true
  · obtain ⟨j, el, cur, rfl, hE, hel, g1, g2, g3, g4, g5, g6, g7, g8⟩ := tOk_at hok
    have hjl : j < n.ls.length := (List.getElem?_eq_some_iff.1 hel).1
    obtain ⟨l1, l2, l3⟩ := ck_len hE
    have g6' : (ckS n)[((j : Int) + 1).toNat]? = some (outOf cur el).1 := g6
    have k0 := fnRShapes n
    rw [hE] at k0
    rw [ptT_ok hok g5]
    have k1 := k0; refine z_go ?_
    apply Sym.cond
    · rfl
    · intro h
      have hk : ¬ el.kind = 3 := by
        intro hk
        simp [hk] at h
        omega
      rw [show ptX (lxOf cur el) p = [] from if_neg hk]
      refine z_go ?_
      with_reducible first | apply Fin.rt | apply Fin.nx
      exact .cons (.tmp rfl (.of (.mk rfl z_vle))) .nil
    · intro h
      have hk : el.kind = 3 := by
        simp at h
        exact h.2
      have hb : shPool cur el.size = ((outOf cur el).1, true) := by
        rw [fits3 hk] at g3 ⊢
        rw [← g3]
      obtain ⟨p1, p2, p3, p4, p5⟩ := pool_fit g2 hb
      obtain ⟨a1, a2, a3, a4⟩ := shRight_iff.1 g2
      obtain ⟨d1, d2, d3, d4⟩ := shRight_iff.1 g8
      obtain ⟨z, hz⟩ : ∃ k : Nat, el.size = k := ⟨el.size.toNat, by omega⟩
      have hzz : z * z ≤ 144 := Nat.mul_le_mul (show z ≤ 12 by omega) (show z ≤ 12 by omega)
      have kof := fnROf (outOf cur el).1 p
      by_cases h : (shOf (outOf cur el).1 p).2 = true
      · obtain ⟨hin, hpos, hi⟩ := of_in g8 h
        obtain ⟨i1, i2, i3⟩ := inS_iff.1 hin
        rw [show shOf (outOf cur el).1 p = (((shOf (outOf cur el).1 p).1.1, (shOf (outOf cur el).1 p).1.2.1, (shOf (outOf cur el).1 p).1.2.2), true) by rw [← h]] at kof
        rw [show ptX (lxOf cur el) p = (List.range (el.size.toNat * el.size.toNat)).map (plP cur el.size.toNat (shOf (outOf cur el).1 p).1.1 ((shOf (outOf cur el).1 p).1.2.1 * el.size) ((shOf (outOf cur el).1 p).1.2.2 * el.size)) by
          unfold ptX
          simp only
          rw [if_pos hk, if_pos h]]
        generalize (shOf (outOf cur el).1 p).1.1 = o at *
        generalize (shOf (outOf cur el).1 p).1.2.1 = y at *
        generalize (shOf (outOf cur el).1 p).1.2.2 = x at *
        have e5 : 0 ≤ y * el.size ∧ y * el.size ≤ 12 := by
          have h1 := mulB (a := y) (b := el.size) (A := (outOf cur el).1.h) (B := el.size) (by omega) (by omega)
          omega
        have e6 : 0 ≤ x * el.size ∧ x * el.size ≤ 12 := by
          have h1 := mulB (a := x) (b := el.size) (A := (outOf cur el).1.w) (B := el.size) (by omega) (by omega)
          omega
        have hzt : el.size.toNat = z := by omega
        rw [hzt]
        have k1 := kof; refine z_go ?_
        refine Sym.weak (Le.asRow 13 3 1 rfl rfl rfl z_nrm z_nrm) ?_
        refine Sym.loop (fun q s => ∃ r : Nat, r ≤ z ∧ q = z - r ∧ s = ⟨[(15, true, .p (.i r)), (14, true, .p (.i el.size)), (13, true, .row 1 ((List.range (r * z)).map (plP cur z o (y * el.size) (x * el.size))).length), (12, true, .p (.b true)), (11, true, .p (.i x)), (10, true, .p (.i y)), (9, true, .p (.i o)), (7, true, .p (V.list encSh (ckS n))), (1, true, .p (.i j))], [some (ntBox n), some (inRow ((List.range (r * z)).map (plP cur z o (y * el.size) (x * el.size))))]⟩) z ⟨_, ⟨0, Nat.zero_le _, by simp, rfl⟩, ?_⟩ ?_
        · rw [Nat.zero_mul, List.range_zero, List.map_nil]
          exact z_wkt
        rintro q s ⟨r, hr, rfl, rfl⟩
        refine z_go ?_
        apply Sym.cond
        · rfl
        · intro hlt2
          rw [hz] at hlt2
          simp only [Bool.and_true, decide_eq_true_eq] at hlt2
          refine z_go ?_
          refine Sym.loop (fun q s => ∃ k : Nat, k ≤ z ∧ q = z - k ∧ s = ⟨[(16, true, .p (.i k)), (15, true, .p (.i r)), (14, true, .p (.i el.size)), (13, true, .row 1 ((List.range (r * z + k)).map (plP cur z o (y * el.size) (x * el.size))).length), (12, true, .p (.b true)), (11, true, .p (.i x)), (10, true, .p (.i y)), (9, true, .p (.i o)), (7, true, .p (V.list encSh (ckS n))), (1, true, .p (.i j))], [some (ntBox n), some (inRow ((List.range (r * z + k)).map (plP cur z o (y * el.size) (x * el.size))))]⟩) z ⟨_, ⟨0, Nat.zero_le _, by simp, rfl⟩, z_wkt⟩ ?_
          rintro q s ⟨k, hk2, rfl, rfl⟩
          refine z_go ?_
          apply Sym.cond
          · rfl
          · intro hlt3
            rw [hz] at hlt3
            simp only [decide_eq_true_eq] at hlt3
            have hrz : r * z ≤ 144 := Nat.le_trans (Nat.mul_le_mul (show r ≤ z by omega) (Nat.le_refl z)) hzz
            have hll : ((List.range (r * z + k)).map (plP cur z o (y * el.size) (x * el.size))).length ≤ 10000 := by
              simp
              omega
            have hnx : (List.range (r * z + (k + 1))).map (plP cur z o (y * el.size) (x * el.size)) = (List.range (r * z + k)).map (plP cur z o (y * el.size) (x * el.size)) ++ [shAt cur o (y * el.size + r) (x * el.size + k)] := by
              rw [← Nat.add_assoc, List.range_succ, List.map_append, List.map_cons, List.map_nil, plP_rk _ _ _ _ _ _ _ (by omega)]
            have k1 := fnRAt cur o (y * el.size + r) (x * el.size + k); have a1 : AppH encI ((List.range (r * z + k)).map (plP cur z o (y * el.size) (x * el.size))) [shAt cur o (y * el.size + r) (x * el.size + k)] := .mk; refine z_go ?_
            refine ⟨_, ?_, _, ⟨k + 1, by omega, rfl, rfl⟩, ?_⟩
            · omega
            · rw [hnx]
              exact z_wkt
          · intro hge
            rw [hz] at hge
            simp only [decide_eq_false_iff_not] at hge
            obtain rfl : k = z := by omega
            refine z_go ?_
            refine ⟨_, ?_, _, ⟨r + 1, by omega, rfl, rfl⟩, ?_⟩
            · omega
            · rw [show (r + 1) * k = r * k + k by rw [Nat.add_mul, Nat.one_mul]]
              exact z_wkt
        · intro hge
          rw [hz] at hge
          simp only [Bool.and_true, decide_eq_false_iff_not] at hge
          obtain rfl : r = z := by omega
          refine z_go ?_
          with_reducible first | apply Fin.rt | apply Fin.nx
          exact .cons (.tmp rfl (DVr.list encI _ rfl (fun q => rfl) rfl rfl)) .nil
      · rw [Bool.not_eq_true] at h
        rw [show shOf (outOf cur el).1 p = (((shOf (outOf cur el).1 p).1.1, (shOf (outOf cur el).1 p).1.2.1, (shOf (outOf cur el).1 p).1.2.2), false) by rw [← h]] at kof
        rw [show ptX (lxOf cur el) p = [] by
          unfold ptX
          simp only
          rw [if_pos hk, h]
          rfl]
        generalize (shOf (outOf cur el).1 p).1.1 = o at *
        generalize (shOf (outOf cur el).1 p).1.2.1 = y at *
        generalize (shOf (outOf cur el).1 p).1.2.2 = x at *
        have k1 := kof; refine z_go ?_
        refine Sym.loop (fun q s => q = 0 ∧ s = ⟨[(15, true, .p (.i 0)), (14, true, .p (.i el.size)), (13, true, .p (.x (.slice none 0 0))), (12, true, .p (.b false))], [some (ntBox n)]⟩) 0 ⟨_, ⟨rfl, rfl⟩, z_wkt⟩ ?_
        rintro q s ⟨rfl, rfl⟩
        refine z_go ?_
        apply Sym.cond
        · rfl
        · intro hlt
          exact absurd hlt (by simp)
        · intro _
          refine z_go ?_
          with_reducible first | apply Fin.rt | apply Fin.nx
          exact .cons (.tmp rfl (.of (.mk rfl z_vle))) .nil
  · rw [Bool.not_eq_true] at hok
    rw [show ptT n i p = [] by simp [ptT, hok]]
    have hok : ((ckE n != 0 || decide (i < 0)) || decide (i ≥ (n.ls.length : Int))) = true := by
      simp only [tOk, Bool.not_eq_false'] at hok
      exact hok
    have k1 := fnRShapes n; refine z_go ?_
    ((with_reducible apply SymL.opr); exact z_gd; exact MOp.off (by rw [hok]; rfl); exact rfl)
    ((with_reducible apply SymL.opr); exact z_gd; exact MOp.off (by rw [hok]; rfl); exact rfl)
    ((with_reducible apply SymL.opr); exact z_gd; exact MOp.off (by rw [hok]; rfl); exact rfl)
    ((with_reducible apply SymL.opr); exact z_gd; exact MOp.off (by rw [hok]; rfl); exact rfl)
    ((with_reducible apply SymL.opr); exact z_gd; ((with_reducible apply MOp.pickOrT); exact z_ev; rw [hok]); exact rfl)
    refine z_go ?_
    apply Sym.cond
    · rfl
    · intro h
      refine z_go ?_
      with_reducible first | apply Fin.rt | apply Fin.nx
      exact .cons (.tmp rfl (.of (.mk rfl z_vle))) .nil
    · intro h
      cases h
/-! ### what goes in, and what comes out -/
theorem fnSizesOk {n : Nt} {j : Nat} {el : Ly} {cur : Sh} (hE : ckE n = 0) (hel : n.ls[j]? = some el) (g1 : (ckS n)[j]? = some cur) (g6 : (ckS n)[j + 1]? = some (outOf cur el).1) :
    Fn1 Try.prog 47 [ntV n, .i j] (.tup [.i (shSize cur), .i (shSize (outOf cur el).1), .b true]) := by
  refine Fn1.of (rs := [.i _, .i _, .b _]) (res := [.tmp 4, .tmp 5, .tmp 6]) Try.call47 Try.func47 rfl Try.ntmps47 rfl (by simp) fun c hc => ?_
  have hjl : j < n.ls.length := (List.getElem?_eq_some_iff.1 hel).1
  obtain ⟨l1, l2, l3⟩ := ck_len hE
  have g6' : (ckS n)[((j : Int) + 1).toNat]? = some (outOf cur el).1 := g6
  have k0 := fnRShapes n
  rw [hE] at k0
  have k1 := k0; refine z_go ?_
  apply Sym.cond
  · rfl
  · intro h
    exfalso
    simp at h
    omega
  · intro _
    have k1 := fnRShSize cur; have k2 := fnRShSize (outOf cur el).1; refine z_go ?_
    with_reducible first | apply Fin.rt | apply Fin.nx
    exact .cons (.tmp rfl (.of (.of rfl))) (.cons (.tmp rfl (.of (.of rfl))) (.cons (.tmp rfl (.of (.of rfl))) .nil))
theorem fnSizesBad {n : Nt} {i : Int} (h : tOk n i = false) : Fn1 Try.prog 47 [ntV n, .i i] (.tup [.i 0, .i 0, .b false]) := by
  refine Fn1.of (rs := [.i _, .i _, .b _]) (res := [.tmp 4, .tmp 5, .tmp 6]) Try.call47 Try.func47 rfl Try.ntmps47 rfl (by simp) fun c hc => ?_
  have k1 := fnRShapes n; refine z_go ?_
  apply Sym.cond
  · rfl
  · intro _
    refine z_go ?_
    with_reducible first | apply Fin.rt | apply Fin.nx
    exact .cons (.tmp rfl (.of (.of rfl))) (.cons (.tmp rfl (.of (.of rfl))) (.cons (.tmp rfl (.of (.of rfl))) .nil))
  · intro h2
    exfalso
    simp only [tOk, h2] at h
    cases h
end Go.Proofs.Ytblabchnpkofgaa
