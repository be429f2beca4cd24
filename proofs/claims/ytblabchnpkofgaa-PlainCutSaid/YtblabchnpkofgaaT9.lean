/- Layer 6's laws: the walks of TermsCount and TermsWeights. -/
import Derived.Test.YtblabchnpkofgaaT8
set_option linter.unusedSimpArgs false
set_option linter.unusedVariables false
namespace Go.Proofs.Ytblabchnpkofgaa
open Go.RowKit Go.Sy
theorem ck_vals {n : Nt} {j : Nat} {el : Ly} {cur : Sh} (g5 : (ckL n)[j]? = some (lxOf cur el)) : (ckW n j).2 = wOf cur el ∧ ckP n j = pOf cur (outOf cur el).1 el := by
  have hl : j < (ckL n).length := (List.getElem?_eq_some_iff.1 g5).1
  unfold ckW ckP
  rw [if_pos (by omega), if_pos (by omega)]
  constructor <;> simp [g5]
theorem mod8 {a : Int} (ha : 0 ≤ a ∧ a ≤ 255) : ∃ k : Nat, a % 8 = k ∧ k ≤ 7 := ⟨(a % 8).toNat, by omega, by omega⟩
theorem tmT_end {n : Nt} {j : Nat} {x : Lx} (h : tOk n j = true) (hx : (ckL n)[j]? = some x) {p : Int} (hp : ¬ (0 ≤ p ∧ p < shSize x.out)) : tmT n j p = [] := by
  rw [tmT_ok h hx]
  exact if_neg hp
theorem tmT_bad {n : Nt} {i : Int} (h : tOk n i = false) (p : Int) : tmT n i p = [] := by simp [tmT, h]
theorem ptT_bad {n : Nt} {i : Int} (h : tOk n i = false) (p : Int) : ptT n i p = [] := by simp [ptT, h]
theorem w_in {o c m wt q : Int} (ho : 0 ≤ o ∧ o < c) (hq : 0 ≤ q ∧ q < m) : wt ≤ wt + o * m + q ∧ wt + o * m + q < wt + c * m := by
  have h1 := Int.mul_nonneg ho.1 (show 0 ≤ m by omega)
  have h2 : (o + 1) * m ≤ c * m := Int.mul_le_mul_of_nonneg_right (by omega) (by omega)
  rw [Int.add_mul, Int.one_mul] at h2
  omega
set_option maxHeartbeats 4000000 in
theorem TermsCount_fn (n : Nt) (a : Int) (ha : 0 ≤ a ∧ a ≤ 255) : Fn1 Try.prog 10 [ntV n, .x (.int .u8 a)] (.b true) := by
  refine Fn1.of (rs := [.b true]) (res := [.tmp 4]) Try.call10 Try.func10 rfl Try.ntmps10 rfl (by simp) fun c hc => ?_
  obtain ⟨k, hk, hk7⟩ := mod8 ha
  have k1 := fnHead6; have k2 := fnGreat4 n; refine z_go ?_
  rw [hk]
  apply Sym.cond
  · rfl
  · intro _
    refine z_go ?_
    with_reducible first | apply Fin.rt | apply Fin.nx
    exact (.cons (.tmp rfl (.of (.of rfl))) .nil)
  · intro _
    by_cases hok : tOk n k = true
    · obtain ⟨j, el, cur, hj, hE, hel, g1, g2, g3, g4, g5, g6, g7, g8⟩ := tOk_at hok
      obtain rfl : k = j := by omega
      obtain ⟨v1, v2⟩ := ck_vals g5
      obtain ⟨o1, o2, o3⟩ := out_bounds g2 g3
      have hzi := shSize_b cur
      have hzo := shSize_b (outOf cur el).1
      obtain ⟨O, hO⟩ : ∃ O : Nat, shSize (outOf cur el).1 = O := ⟨(shSize (outOf cur el).1).toNat, by omega⟩
      obtain ⟨m, hm, hpo, hwo, hF⟩ := tm_facts g2 g3 g4 (ckW n k).1
      have ks := fnSizesOk hE hel g1 g6
      have kw := fnRWeights n k
      have kp := fnRProducts n k
      have e1 := tmT_end hok g5 (p := (O : Int)) (by simp only; omega)
      have e2 := tmT_end hok g5 (p := -1) (by omega)
      have t1 := fnTerms n k O
      have t2 := fnTerms n k (-1)
      rw [hO] at ks
      rw [v1] at kw
      rw [v2, hpo, hO] at kp
      rw [e1] at t1
      rw [e2] at t2
      have k1 := ks; refine z_go ?_
      apply Sym.cond
      · rfl
      · intro h
        exact absurd h (by simp)
      · intro _
        have k1 := kw; refine z_go ?_
        refine Sym.loop (fun r s => ∃ q : Nat, q ≤ O ∧ r = O - q ∧ s = ⟨[(13, true, .p (.i q)), (12, true, .p (.i ((m * q : Nat) : Int))), (11, true, .p (.i (wOf cur el))), (10, true, .p (.i (ckW n k).1)), (8, true, .p (.i O)), (7, true, .p (.i (shSize cur))), (6, true, .p (.i k)), (5, true, .p (.b true)), (2, true, .ptr 0 0)], [some (ntBox n)]⟩) O ⟨_, ⟨0, Nat.zero_le _, by simp, rfl⟩, z_wkt⟩ ?_
        rintro r s ⟨q, hq, rfl, rfl⟩
        refine z_go ?_
        apply Sym.cond
        · rfl
        · intro hlt
          simp only [decide_eq_true_eq] at hlt
          obtain ⟨f, hf⟩ := hF q (by omega) (by omega)
          have hT : tmT n k q = (List.range m).map f := (tmT_ok hok g5 q).trans hf.eq
          have hlen : ((List.range m).map f).length = m := by simp
          have hmq : m * q ≤ 2000 * 128 := Nat.mul_le_mul hm (by omega)
          have kt := fnTerms n k q
          rw [hT] at kt
          have hch := of_in g8 (i := (q : Int)) (by rw [show shOf (outOf cur el).1 q = _ from if_pos ⟨by omega, by omega⟩])
          obtain ⟨c1, _, _⟩ := inS_iff.1 hch.1
          have k1 := kt; refine z_go ?_
          refine Sym.loop (fun r s => ∃ j : Nat, j ≤ m ∧ r = m - j ∧ s = ⟨[(15, true, .p (.i j)), (14, true, .p (V.list encTm ((List.range m).map f))), (13, true, .p (.i q)), (12, true, .p (.i (((m * q : Nat) : Int) + (((List.range m).map f).length : Int)))), (11, true, .p (.i (wOf cur el))), (10, true, .p (.i (ckW n k).1)), (8, true, .p (.i O)), (7, true, .p (.i (shSize cur))), (6, true, .p (.i k)), (5, true, .p (.b true)), (2, true, .ptr 0 0)], [some (ntBox n)]⟩) m ⟨_, ⟨0, Nat.zero_le _, by simp, rfl⟩, z_wkt⟩ ?_
          rintro r s ⟨j, hj, rfl, rfl⟩
          refine z_go ?_
          apply Sym.cond
          · rfl
          · intro hlt2
            simp only [decide_eq_true_eq, hlen] at hlt2
            have hjm : j < m := by omega
            have hel2 : ((List.range m).map f)[j]? = some (f j) := by simp [hjm]
            refine z_go ?_
            apply Sym.cond
            · rfl
            · intro hbad
              exfalso
              have hx := hf.xin j hjm
              by_cases hw0 : wOf cur el = 0
              · have hw := hf.w0 hw0 j hjm
                simp [hw0, hw] at hbad
                omega
              · have hw := hf.ww hw0 j hjm
                have hwm : wOf cur el = (outOf cur el).1.c * (m : Int) := by
                  rcases hwo with h | h
                  · exact absurd h hw0
                  · exact h.2
                have hwi := w_in (wt := (ckW n k).1) c1 (q := (j : Int)) (m := (m : Int)) ⟨by omega, by omega⟩
                rw [← hw, ← hwm] at hwi
                simp [hw0] at hbad
                omega
            · intro _
              refine z_go ?_
              refine ⟨_, ?_, _, ⟨j + 1, by omega, rfl, rfl⟩, z_wkt⟩
              omega
          · intro _
            refine z_go ?_
            refine ⟨_, ?_, _, ⟨q + 1, by omega, rfl, rfl⟩, ?_⟩
            · omega
            · rw [show ((m * (q + 1) : Nat) : Int) = ((m * q : Nat) : Int) + (((List.range m).map f).length : Int) by rw [hlen, Nat.mul_add, Nat.mul_one, Int.natCast_add]]
              exact z_wkt
        · intro hge
          simp only [decide_eq_false_iff_not] at hge
          obtain rfl : q = O := by omega
          have k1 := kp; have k2 := t1; have k3 := t2; refine z_go ?_
          with_reducible first | apply Fin.rt | apply Fin.nx
          refine .cons (.tmp rfl (.of (.of ?_))) .nil
          simp [D.toV]
    · rw [Bool.not_eq_true] at hok
      have kt := fnTerms n k 0
      rw [tmT_bad hok] at kt
      have k1 := fnSizesBad hok; have k2 := kt; refine z_go ?_
      apply Sym.cond
      · rfl
      · intro _
        refine z_go ?_
        with_reducible first | apply Fin.rt | apply Fin.nx
        exact (.cons (.tmp rfl (.of (.of rfl))) .nil)
      · intro h
        exact absurd h (by simp)
/-! ### TermsWeights -/
theorem cnt_step {H o q : Nat} (hH : 0 < H) : min (q + 1 - o * H) H = min (q - o * H) H + (if q / H = o then 1 else 0) := by
  have h1 : q / H = o ↔ o * H ≤ q ∧ q < o * H + H := by
    constructor
    · rintro rfl
      have := Nat.div_add_mod q H
      have h2 := Nat.mod_lt q hH
      rw [Nat.mul_comm] at this
      omega
    · rintro ⟨a, b⟩
      have : q / H < o + 1 := (Nat.div_lt_iff_lt_mul hH).2 (by rw [Nat.add_mul, Nat.one_mul]; exact b)
      have h2 : o ≤ q / H := (Nat.le_div_iff_mul_le hH).2 a
      omega
  split
  · rename_i h
    have := h1.1 h
    omega
  · rename_i h
    have h2 : ¬ (o * H ≤ q ∧ q < o * H + H) := fun h3 => h (h1.2 h3)
    omega
theorem chan_nat {s : Sh} (hs : shRight s = true) {q : Nat} (hq : (q : Int) < shSize s) {H : Nat} (hH : s.h * s.w = H) : (shOf s q).1.1 = ((q / H : Nat) : Int) := by
  obtain ⟨b1, b2, b3, b4⟩ := shRight_iff.1 hs
  rw [show shOf s q = (((q : Int) / s.w / s.h, (q : Int) / s.w % s.h, (q : Int) % s.w), true) from if_pos ⟨by omega, hq⟩]
  simp only
  rw [Int.ediv_ediv, if_neg (by omega), Int.sub_zero, Int.mul_comm s.w, hH, Int.natCast_ediv]
set_option maxHeartbeats 4000000 in
theorem TermsWeights_fn (n : Nt) (a w : Int) (ha : 0 ≤ a ∧ a ≤ 255) (hw : 0 ≤ w ∧ w ≤ 65535) : Fn1 Try.prog 11 [ntV n, .x (.int .u8 a), .x (.int .u16 w)] (.b true) := by
  refine Fn1.of (rs := [.b true]) (res := [.tmp 6]) Try.call11 Try.func11 rfl Try.ntmps11 rfl (by simp) fun c hc => ?_
  obtain ⟨k, hk, hk7⟩ := mod8 ha
  have k1 := fnHead6; have k2 := fnGreat4 n; refine z_go ?_
  rw [hk]
  apply Sym.cond
  · rfl
  · intro _
    refine z_go ?_
    with_reducible first | apply Fin.rt | apply Fin.nx
    exact (.cons (.tmp rfl (.of (.of rfl))) .nil)
  · intro _
    by_cases hok : tOk n k = true
    · obtain ⟨j, el, cur, hj, hE, hel, g1, g2, g3, g4, g5, g6, g7, g8⟩ := tOk_at hok
      obtain rfl : k = j := by omega
      obtain ⟨v1, v2⟩ := ck_vals g5
      obtain ⟨o1, o2, o3⟩ := out_bounds g2 g3
      have hzi := shSize_b cur
      have hzo := shSize_b (outOf cur el).1
      obtain ⟨O, hO⟩ : ∃ O : Nat, shSize (outOf cur el).1 = O := ⟨(shSize (outOf cur el).1).toNat, by omega⟩
      obtain ⟨m, hm, hpo, hwo, hF⟩ := tm_facts g2 g3 g4 (ckW n k).1
      have ks := fnSizesOk hE hel g1 g6
      have kw := fnRWeights n k
      have kss := fnRShapes n
      rw [hO] at ks
      rw [v1] at kw
      rw [hE] at kss
      obtain ⟨l1, l2, l3⟩ := ck_len hE
      have hjl : k < n.ls.length := (List.getElem?_eq_some_iff.1 hel).1
      have k1 := ks; refine z_go ?_
      apply Sym.cond
      · rfl
      · intro h
        exact absurd h (by simp)
      · intro _
        have k1 := kw; refine z_go ?_
        apply Sym.cond
        · rfl
        · intro _
          refine z_go ?_
          with_reducible first | apply Fin.rt | apply Fin.nx
          exact (.cons (.tmp rfl (.of (.of rfl))) .nil)
        · intro hw0
          have hw0 : ¬ wOf cur el = 0 := by simpa using hw0
          have hwp : 0 < wOf cur el := by omega
          obtain ⟨W0, hW0, hW1⟩ : ∃ W0 : Nat, w % wOf cur el = W0 ∧ (W0 : Int) < wOf cur el := ⟨(w % wOf cur el).toNat, by
            have := Int.emod_nonneg w (b := wOf cur el) (by omega)
            omega, by
            have := Int.emod_nonneg w (b := wOf cur el) (by omega)
            have := Int.emod_lt_of_pos w (b := wOf cur el) (by omega)
            omega⟩
          obtain ⟨hm1, hwm⟩ : 1 ≤ m ∧ wOf cur el = (outOf cur el).1.c * (m : Int) := by
            rcases hwo with h | h
            · exact absurd h hw0
            · exact h
          obtain ⟨d1, d2, d3, d4⟩ := shRight_iff.1 g8
          have hzb : shSize (outOf cur el).1 = (outOf cur el).1.c * (outOf cur el).1.h * (outOf cur el).1.w := by simp [shSize, g8]
          have hhw := mulB (a := (outOf cur el).1.h) (b := (outOf cur el).1.w) (A := 12) (B := 12) (by omega) (by omega)
          have hhw1 : 1 * 1 ≤ (outOf cur el).1.h * (outOf cur el).1.w := Int.mul_le_mul (by omega) (by omega) (by omega) (by omega)
          obtain ⟨H, hH⟩ : ∃ H : Nat, (outOf cur el).1.h * (outOf cur el).1.w = H := ⟨((outOf cur el).1.h * (outOf cur el).1.w).toNat, by omega⟩
          obtain ⟨C, hC⟩ : ∃ C : Nat, (outOf cur el).1.c = C := ⟨((outOf cur el).1.c).toNat, by omega⟩
          have hOC : O = C * H := by
            rw [hzb, Int.mul_assoc, hH, hC, ← Int.natCast_mul] at hO
            omega
          have ho0 : W0 / m < C := by
            apply Nat.div_lt_of_lt_mul
            rw [hwm, hC, ← Int.natCast_mul] at hW1
            rw [Nat.mul_comm]
            omega
          have hdm := Nat.div_add_mod W0 m
          have hq0 := Nat.mod_lt W0 (show 0 < m by omega)
          generalize ho0e : W0 / m = o0 at *
          generalize hq0e : W0 % m = q0 at *
          have hg7 : (ckS n)[((k : Int) + 1).toNat]? = some (outOf cur el).1 := g6
          apply Sym.skip
          apply thenS.nx
          apply Sym.seq
          apply Sym.regionL
          refine z_s1 ?_
          rw [hW0]
          have k1 := kss; refine z_go ?_
          refine Sym.loop (fun r s => ∃ q : Nat, q ≤ O ∧ r = O - q ∧ s = ⟨[(18, true, .p (.i q)), (17, true, .p (.i ((min (q - o0 * H) H : Nat) : Int))), (15, true, .p (V.list encSh (ckS n))), (14, true, .p (.i ((ckW n k).1 + W0))), (10, true, .p (.i O)), (8, true, .p (.i k)), (7, true, .p (.b true)), (3, true, .ptr 0 0)], [some (ntBox n)]⟩) O ⟨_, ⟨0, Nat.zero_le _, by simp, rfl⟩, ?_⟩ ?_
          · rw [Nat.zero_sub, Nat.zero_min]
            exact z_wkt
          rintro r s ⟨q, hq, rfl, rfl⟩
          refine z_go ?_
          apply Sym.cond
          · rfl
          · intro hlt
            simp only [decide_eq_true_eq] at hlt
            obtain ⟨f, hf⟩ := hF q (by omega) (by omega)
            have hT : tmT n k q = (List.range m).map f := (tmT_ok hok g5 q).trans hf.eq
            have hlen : ((List.range m).map f).length = m := by simp
            have kt := fnTerms n k q
            rw [hT] at kt
            have hch := chan_nat g8 (q := q) (by omega) hH
            have hww : ∀ j, j < m → ((f j).w = (ckW n k).1 + W0 ↔ (q / H = o0 ∧ j = q0)) := by
              intro j hj
              rw [hf.ww hw0 j hj, hch]
              constructor
              · intro h
                have h2 : (q / H) * m + j = W0 := by
                  generalize q / H = X at h ⊢
                  have : ((X * m + j : Nat) : Int) = (W0 : Int) := by
                    rw [Int.natCast_add, Int.natCast_mul]
                    omega
                  omega
                obtain ⟨x1, x2⟩ := divmod_add (q / H) j m hj
                rw [h2] at x1 x2
                omega
              · rintro ⟨h1, h2⟩
                rw [h1, h2, ← hdm, Int.natCast_add, Int.natCast_mul, Int.mul_comm]
                omega
            have k1 := kt; refine z_go ?_
            refine Sym.loop (fun r s => ∃ j : Nat, j ≤ m ∧ r = m - j ∧ s = ⟨[(21, true, .p (.i j)), (20, true, .p (.i (if q / H = o0 ∧ q0 < j then 1 else 0))), (19, true, .p (V.list encTm ((List.range m).map f))), (18, true, .p (.i q)), (17, true, .p (.i ((min (q - o0 * H) H : Nat) : Int))), (15, true, .p (V.list encSh (ckS n))), (14, true, .p (.i ((ckW n k).1 + W0))), (10, true, .p (.i O)), (8, true, .p (.i k)), (7, true, .p (.b true)), (3, true, .ptr 0 0)], [some (ntBox n)]⟩) m ⟨_, ⟨0, Nat.zero_le _, by simp, rfl⟩, ?_⟩ ?_
            · rw [if_neg (by omega)]
              exact z_wkt
            rintro r s ⟨j, hj, rfl, rfl⟩
            refine z_go ?_
            apply Sym.cond
            · rfl
            · intro hlt2
              simp only [decide_eq_true_eq, hlen] at hlt2
              have hjm : j < m := by omega
              have hel2 : ((List.range m).map f)[j]? = some (f j) := by simp [hjm]
              have hif : (0 : Int) ≤ (if q / H = o0 ∧ q0 < j then 1 else 0) ∧ (if q / H = o0 ∧ q0 < j then (1 : Int) else 0) ≤ 1 := by split <;> omega
              refine z_go ?_
              apply Sym.cond
              · rfl
              · intro he
                have he : (f j).w = (ckW n k).1 + W0 := by simpa using he
                have he := (hww j hjm).1 he
                refine z_go ?_
                refine ⟨_, ?_, _, ⟨j + 1, by omega, rfl, rfl⟩, ?_⟩
                · omega
                · rw [show (if q / H = o0 ∧ q0 < j + 1 then (1 : Int) else 0) = (if q / H = o0 ∧ q0 < j then 1 else 0) + 1 by
                    rw [if_pos (by omega), if_neg (by omega)]
                    rfl]
                  exact z_wkt
              · intro he
                have he : ¬ (f j).w = (ckW n k).1 + W0 := by simpa using he
                have he : ¬ (q / H = o0 ∧ j = q0) := fun h => he ((hww j hjm).2 h)
                refine z_go ?_
                refine ⟨_, ?_, _, ⟨j + 1, by omega, rfl, rfl⟩, ?_⟩
                · omega
                · rw [show (if q / H = o0 ∧ q0 < j + 1 then (1 : Int) else 0) = (if q / H = o0 ∧ q0 < j then 1 else 0) by
                    by_cases h1 : q / H = o0 ∧ q0 < j
                    · rw [if_pos h1, if_pos (by omega)]
                    · rw [if_neg h1, if_neg (by omega)]]
                  exact z_wkt
            · intro hge
              simp only [decide_eq_false_iff_not, hlen] at hge
              obtain rfl : j = m := by omega
              have hif : (0 : Int) ≤ (if q / H = o0 ∧ q0 < j then 1 else 0) ∧ (if q / H = o0 ∧ q0 < j then (1 : Int) else 0) ≤ 1 := by split <;> omega
              refine z_go ?_
              apply Sym.cond
              · rfl
              · intro hbad
                exfalso
                simp only [decide_eq_true_eq] at hbad
                omega
              · intro _
                refine z_go ?_
                refine ⟨_, ?_, _, ⟨q + 1, by omega, rfl, rfl⟩, ?_⟩
                · omega
                · rw [show ((min (q + 1 - o0 * H) H : Nat) : Int) = ((min (q - o0 * H) H : Nat) : Int) + (if q / H = o0 ∧ q0 < j then (1 : Int) else 0) by
                    rw [cnt_step (by omega)]
                    by_cases h1 : q / H = o0
                    · rw [if_pos h1, if_pos ⟨h1, by omega⟩]
                      rfl
                    · rw [if_neg h1, if_neg (fun h => h1 h.1)]
                      rfl]
                  exact z_wkt
          · intro hge
            simp only [decide_eq_false_iff_not] at hge
            obtain rfl : q = O := by omega
            have hfin : min (q - o0 * H) H = H := by
              have : (o0 + 1) * H ≤ C * H := Nat.mul_le_mul_right _ (by omega)
              rw [Nat.add_mul, Nat.one_mul] at this
              omega
            rw [hfin]
            refine z_go ?_
            with_reducible first | apply Fin.rt | apply Fin.nx
            refine .cons (.tmp rfl (.of (.of ?_))) .nil
            simp [D.toV, hH]
    · rw [Bool.not_eq_true] at hok
      have k1 := fnSizesBad hok; refine z_go ?_
      apply Sym.cond
      · rfl
      · intro _
        refine z_go ?_
        with_reducible first | apply Fin.rt | apply Fin.nx
        exact (.cons (.tmp rfl (.of (.of rfl))) .nil)
      · intro h
        exact absurd h (by simp)
end Go.Proofs.Ytblabchnpkofgaa
