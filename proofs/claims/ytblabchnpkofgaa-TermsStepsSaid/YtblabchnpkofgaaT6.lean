/- Layer 6's own answer: conv, Terms, Parts, SameTerms, SameInts. -/
import Derived.Test.YtblabchnpkofgaaT5
set_option linter.unusedSimpArgs false
set_option linter.unusedVariables false
namespace Go.Sy
open Go.RowKit
/-- 'x || z', where x is true: z does not matter -/
theorem MOp.pickOrT {P : Program} {s : St} {g : Bool} {dst : Option Tmp} {ty : TypeId} {pos : String} {af : Array Edge} {gd : Option (Nat × Bool)} {x z : Operand} {b : Bool} (hx : Ev s g x (.p (.x (.bool b)))) (hb : b = true) :
    MOp P s ⟨dst, .pick x (.const (.bool true)) z, ty, pos, af, gd⟩ g (.p (.x (.bool true))) := by
  refine ⟨fun β S a w ho he hg K Q hK => ?_⟩
  subst hg
  subst hb
  have h1 : a.eval x = .bool true := hx.rep (l := (Op.pick x (.const (.bool true)) z).operands) (by simp [Op.operands]) he rfl
  have h2 : a.eval (.const (.bool true)) = .bool true := rfl
  exact wp_value (v := .bool true) (by simp [execOp, h1, h2, asBool]) (hK _ w (Ext.refl w) rfl)
end Go.Sy
namespace Go.Proofs.Ytblabchnpkofgaa
open Go.RowKit Go.Sy
theorem cvTm_rk (a : Sh) (z : Nat) (wt o c y0 x0 : Int) (r k : Nat) (hk : k < z) : cvTm a z wt o c y0 x0 (r * z + k) = ⟨shAt a c (y0 + r) (x0 + k), wt + ((o * a.c + c) * z + r) * z + k⟩ := by
  have e1 : (r * z + k) / z = r := by
    rw [Nat.mul_comm, Nat.mul_add_div (by omega), Nat.div_eq_of_lt hk, Nat.add_zero]
  have e2 : (r * z + k) % z = k := by
    rw [Nat.mul_comm, Nat.mul_add_mod, Nat.mod_eq_of_lt hk]
  unfold cvTm tmAt
  rw [e1, e2]
  congr 1
  rw [Int.add_mul (_ * _) (r : Int), Int.natCast_add, Int.natCast_mul]
  omega
set_option maxHeartbeats 2000000 in
theorem fnRConvT (l : Ly) (a b : Sh) (wt i : Int) (ha : shRight a = true) (hb : shConv a l.out l.size l.step = (b, true)) (hw : 0 ≤ wt ∧ wt ≤ 512) : Fn1 Try.prog 70 [shV a, shV b, lyV l, .i wt, .i i] (V.list encTm (cvT a b l wt i)) := by
  refine Fn1.of (rs := [V.list encTm _]) (res := [.tmp 10]) Try.call70 Try.func70 rfl Try.ntmps70 rfl (by simp) fun c hc => ?_
  obtain ⟨c1, c2, c3, c4, c5, c6⟩ := conv_fit ha hb
  obtain ⟨a1, a2, a3, a4⟩ := shRight_iff.1 ha
  obtain ⟨d1, d2, d3, d4⟩ := shRight_iff.1 c1
  by_cases h : (shOf b i).2 = true
  · obtain ⟨hin, hpos, hi⟩ := of_in c1 h
    obtain ⟨i1, i2, i3⟩ := inS_iff.1 hin
    have kof := fnROf b i
    rw [show shOf b i = (((shOf b i).1.1, (shOf b i).1.2.1, (shOf b i).1.2.2), true) by rw [← h]] at kof
    rw [show cvT a b l wt i = cvRows a l.size.toNat wt (shOf b i).1.1 ((shOf b i).1.2.1 * l.step) ((shOf b i).1.2.2 * l.step) a.c.toNat from if_pos h]
    generalize (shOf b i).1.1 = o at *
    generalize (shOf b i).1.2.1 = y at *
    generalize (shOf b i).1.2.2 = x at *
    obtain ⟨z, hz⟩ : ∃ k : Nat, l.size = k := ⟨l.size.toNat, by omega⟩
    obtain ⟨m, hm⟩ : ∃ k : Nat, a.c = k := ⟨a.c.toNat, by omega⟩
    have e5 := c5 y (by omega) (by omega)
    have e6 := c6 x (by omega) (by omega)
    have hzz : z * z ≤ 144 := Nat.mul_le_mul (show z ≤ 12 by omega) (show z ≤ 12 by omega)
    rw [hm, hz, Int.toNat_natCast, Int.toNat_natCast]
    have k1 := kof; refine z_go ?_
    refine Sym.weak (Le.asRow 15 58 2 rfl rfl rfl z_nrm z_nrm) ?_
    refine Sym.loop (fun q s => ∃ j : Nat, j ≤ m ∧ q = m - j ∧ s = ⟨[(16, true, .p (.i j)), (15, true, .row 3 (cvRows a z wt o (y * l.step) (x * l.step) j).length), (14, true, .p (.b true)), (13, true, .p (.i x)), (12, true, .p (.i y)), (11, true, .p (.i o)), (7, true, .ptr 2 0), (5, true, .ptr 0 0), (3, true, .p (.i wt))], [some (shBox a), some (shBox b), some (lyBox l), some (tmRow (cvRows a z wt o (y * l.step) (x * l.step) j))]⟩) m ⟨_, ⟨0, Nat.zero_le _, by simp, rfl⟩, z_wkt⟩ ?_
    rintro q s ⟨j, hj, rfl, rfl⟩
    refine z_go ?_
    apply Sym.cond
    · rfl
    · intro hlt
      simp only [Bool.and_true, decide_eq_true_eq] at hlt
      have hlen := cvRows_len a z wt o (y * l.step) (x * l.step) j
      have hlen2 : j * (z * z) ≤ 8 * 144 := Nat.mul_le_mul (by omega) hzz
      refine z_go ?_
      refine Sym.loop (fun q s => ∃ r : Nat, r ≤ z ∧ q = z - r ∧ s = ⟨[(17, true, .p (.i r)), (16, true, .p (.i j)), (15, true, .row 3 (cvRows a z wt o (y * l.step) (x * l.step) j ++ (List.range (r * z)).map (cvTm a z wt o j (y * l.step) (x * l.step))).length), (14, true, .p (.b true)), (13, true, .p (.i x)), (12, true, .p (.i y)), (11, true, .p (.i o)), (7, true, .ptr 2 0), (5, true, .ptr 0 0), (3, true, .p (.i wt))], [some (shBox a), some (shBox b), some (lyBox l), some (tmRow (cvRows a z wt o (y * l.step) (x * l.step) j ++ (List.range (r * z)).map (cvTm a z wt o j (y * l.step) (x * l.step))))]⟩) z ⟨_, ⟨0, Nat.zero_le _, by simp, rfl⟩, ?_⟩ ?_
      · rw [Nat.zero_mul, List.range_zero, List.map_nil, List.append_nil]
        exact z_wkt
      rintro q s ⟨r, hr, rfl, rfl⟩
      refine z_go ?_
      apply Sym.cond
      · rfl
      · intro hlt2
        rw [hz] at hlt2
        simp only [decide_eq_true_eq] at hlt2
        refine z_go ?_
        refine Sym.loop (fun q s => ∃ k : Nat, k ≤ z ∧ q = z - k ∧ s = ⟨[(18, true, .p (.i k)), (17, true, .p (.i r)), (16, true, .p (.i j)), (15, true, .row 3 (cvRows a z wt o (y * l.step) (x * l.step) j ++ (List.range (r * z + k)).map (cvTm a z wt o j (y * l.step) (x * l.step))).length), (14, true, .p (.b true)), (13, true, .p (.i x)), (12, true, .p (.i y)), (11, true, .p (.i o)), (7, true, .ptr 2 0), (5, true, .ptr 0 0), (3, true, .p (.i wt))], [some (shBox a), some (shBox b), some (lyBox l), some (tmRow (cvRows a z wt o (y * l.step) (x * l.step) j ++ (List.range (r * z + k)).map (cvTm a z wt o j (y * l.step) (x * l.step))))]⟩) z ⟨_, ⟨0, Nat.zero_le _, by simp, rfl⟩, z_wkt⟩ ?_
        rintro q s ⟨k, hk, rfl, rfl⟩
        refine z_go ?_
        apply Sym.cond
        · rfl
        · intro hlt3
          rw [hz] at hlt3
          simp only [decide_eq_true_eq] at hlt3
          have hrz : r * z ≤ 144 := Nat.le_trans (Nat.mul_le_mul (show r ≤ z by omega) (Nat.le_refl z)) hzz
          have hll : (cvRows a z wt o (y * l.step) (x * l.step) j ++ (List.range (r * z + k)).map (cvTm a z wt o j (y * l.step) (x * l.step))).length ≤ 10000 := by
            simp [hlen]
            omega
          have m1 := mulB (a := o) (b := a.c) (A := 7) (B := 8) (by omega) (by omega)
          have m2 := mulB (a := o * a.c + (j : Int)) (b := l.size) (A := 63) (B := 12) (by omega) (by omega)
          have m3 := mulB (a := (o * a.c + (j : Int)) * l.size + (r : Int)) (b := l.size) (A := 767) (B := 12) (by omega) (by omega)
          have hnx : (List.range (r * z + (k + 1))).map (cvTm a z wt o j (y * l.step) (x * l.step)) = (List.range (r * z + k)).map (cvTm a z wt o j (y * l.step) (x * l.step)) ++ [⟨shAt a j (y * l.step + r) (x * l.step + k), wt + ((o * a.c + j) * l.size + r) * l.size + k⟩] := by
            rw [← Nat.add_assoc, List.range_succ, List.map_append, List.map_cons, List.map_nil, cvTm_rk _ _ _ _ _ _ _ _ _ (by omega), hz]
          refine z_go ?_
          (apply Sym.drawXL [36] (by kernel_rfl) (by kernel_rfl) (by kernel_rfl))
          have k1 := fnRAt a j (y * l.step + r) (x * l.step + k); have a1 : AppH encTm (cvRows a z wt o (y * l.step) (x * l.step) j ++ (List.range (r * z + k)).map (cvTm a z wt o j (y * l.step) (x * l.step))) [⟨shAt a j (y * l.step + r) (x * l.step + k), wt + ((o * a.c + j) * l.size + r) * l.size + k⟩] := .mk; refine z_xgo ?_
          refine z_go ?_
          refine ⟨_, ?_, _, ⟨k + 1, by omega, rfl, rfl⟩, ?_⟩
          · omega
          · rw [hnx, ← List.append_assoc]
            exact z_wkt
        · intro hge
          rw [hz] at hge
          simp only [decide_eq_false_iff_not] at hge
          obtain rfl : k = z := by omega
          refine z_go ?_
          refine ⟨_, ?_, _, ⟨r + 1, by omega, rfl, rfl⟩, ?_⟩
          · omega
          · rw [show (r + 1) * k = r * k + k by rw [Nat.add_mul, Nat.one_mul]]
            exact z_wkt
      · intro hge
        rw [hz] at hge
        simp only [decide_eq_false_iff_not] at hge
        obtain rfl : r = z := by omega
        refine z_go ?_
        refine ⟨_, ?_, _, ⟨j + 1, by omega, rfl, rfl⟩, ?_⟩
        · omega
        · rw [cvRows_succ]
          exact z_wkt
    · intro hge
      rw [hm] at hge
      simp only [Bool.and_true, decide_eq_false_iff_not] at hge
      obtain rfl : j = m := by omega
      refine z_go ?_
      with_reducible first | apply Fin.rt | apply Fin.nx
      exact .cons (.tmp rfl (DVr.list encTm _ rfl (fun q => rfl) rfl rfl)) .nil
  · rw [Bool.not_eq_true] at h
    have kof := fnROf b i
    rw [show shOf b i = (((shOf b i).1.1, (shOf b i).1.2.1, (shOf b i).1.2.2), false) by rw [← h]] at kof
    rw [show cvT a b l wt i = [] by simp [cvT, h]]
    generalize (shOf b i).1.1 = o at *
    generalize (shOf b i).1.2.1 = y at *
    generalize (shOf b i).1.2.2 = x at *
    have k1 := kof; refine z_go ?_
    refine Sym.loop (fun q s => q = 0 ∧ s = ⟨[(16, true, .p (.i 0)), (15, true, .p (.x (.slice none 0 0))), (14, true, .p (.b false)), (5, true, .ptr 0 0)], [some (shBox a)]⟩) 0 ⟨_, ⟨rfl, rfl⟩, z_wkt⟩ ?_
    rintro q s ⟨rfl, rfl⟩
    refine z_go ?_
    apply Sym.cond
    · rfl
    · intro hlt
      exact absurd hlt (by simp)
    · intro _
      refine z_go ?_
      with_reducible first | apply Fin.rt | apply Fin.nx
      exact .cons (.tmp rfl (.of (.mk rfl z_vle))) .nil
end Go.Proofs.Ytblabchnpkofgaa
