/- Layer 8's laws: the walks of GatesOrder and GatesAhead. -/
import Derived.Test.YtfnbofkhgimkcaaVC
set_option linter.unusedSimpArgs false
set_option linter.unusedVariables false
namespace Go.Proofs.Ytfnbofkhgimkcaa
open Go.RowKit Go.Sy
theorem mod_T {a : Int} {T : Nat} (h : 0 < T) : ∃ k : Nat, a % (T : Int) = k ∧ k < T := by
  have h1 := Int.emod_nonneg a (b := (T : Int)) (by omega)
  have h2 := Int.emod_lt_of_pos a (b := (T : Int)) (by omega)
  exact ⟨(a % (T : Int)).toNat, by omega, by omega⟩
theorem klt_dec {x y : Gt} {a b : Nat} (h : klt x y ↔ a < b) : (decide (x.l < y.l) || x.l == y.l && (decide (x.a < y.a) || x.a == y.a && decide (x.t < y.t))) = decide ((a : Int) < (b : Int)) := by
  rw [Bool.eq_iff_iff]
  simp only [Bool.or_eq_true, Bool.and_eq_true, decide_eq_true_eq, beq_iff_eq, Int.ofNat_lt]
  exact h
set_option maxHeartbeats 4000000 in
theorem GatesOrder_fn (n : Nt) (g h : Int) (hg : 0 ≤ g ∧ g ≤ 65535) (hh : 0 ≤ h ∧ h ≤ 65535) : Fn1 Try.prog 14 [ntV n, .x (.int .u16 g), .x (.int .u16 h)] (.b true) := by
  refine Fn1.of (rs := [.b true]) (res := [.tmp 6]) Try.call14 Try.func14 rfl Try.ntmps14 rfl (by simp) fun c hc => ?_
  have k1 := fnHead8; have k2 := fnGreat4 n; refine z_go ?_
  apply Sym.cond
  · rfl
  · intro _
    refine z_go ?_
    with_reducible first | apply Fin.rt | apply Fin.nx
    exact (.cons (.tmp rfl (.of (.of rfl))) .nil)
  · intro hgr
    have kt := fnGTotal n
    rw [total_eq n] at kt
    have hle := gA_le n
    have k1 := kt; refine z_go ?_
    apply Sym.cond
    · rfl
    · intro hT
      have hT0 : (gA n).length = 0 := by
        simp at hT
        omega
      refine z_go ?_
      with_reducible first | apply Fin.rt | apply Fin.nx
      refine .cons (.tmp rfl (.of (.of ?_))) .nil
      simp [D.toV, hT0]
    · intro hT
      have hT1 : 0 < (gA n).length := by
        simp at hT
        omega
      obtain ⟨a, ha, hal⟩ := mod_T (a := g) hT1
      obtain ⟨b, hb, hbl⟩ := mod_T (a := h) hT1
      obtain ⟨x, hx⟩ : ∃ x, (gA n)[a]? = some x := ⟨_, List.getElem?_eq_getElem (by omega)⟩
      obtain ⟨y, hy⟩ : ∃ y, (gA n)[b]? = some y := ⟨_, List.getElem?_eq_getElem (by omega)⟩
      have ka := fnGGate n a
      rw [gtM_at hx] at ka
      have kb := fnGGate n b
      rw [gtM_at hy] at kb
      have hord := gt_order hx hy
      have hdec := klt_dec hord
      clear kt
      generalize (gA n).length = T at *
      apply Sym.skip
      apply thenS.nx
      apply Sym.seq
      apply Sym.regionL
      refine z_s1 ?_
      apply Sym.seq
      apply Sym.regionL
      refine z_s1 ?_
      rw [ha, hb]
      have k1 := ka; have k2 := kb; refine z_go ?_
      with_reducible first | apply Fin.rt | apply Fin.nx
      refine .cons (.tmp rfl (.of (.of ?_))) .nil
      simp only [D.toV, hdec]
      simp
set_option maxHeartbeats 4000000 in
theorem GatesAhead_fn (n : Nt) (a g : Int) (ha : 0 ≤ a ∧ a ≤ 255) : Fn1 Try.prog 13 [ntV n, .x (.int .u8 a), .i g] (.b true) := by
  refine Fn1.of (rs := [.b true]) (res := [.tmp 6]) Try.call13 Try.func13 rfl Try.ntmps13 rfl (by simp) fun c hc => ?_
  have k1 := fnHead8; have k2 := fnGreat4 n; have k3 := fnRRight n; refine z_go ?_
  apply Sym.cond
  · rfl
  · intro _
    refine z_go ?_
    with_reducible first | apply Fin.rt | apply Fin.nx
    exact (.cons (.tmp rfl (.of (.of rfl))) .nil)
  · intro h
    simp only [Bool.or_eq_false_iff, Bool.not_eq_false', beq_iff_eq, decide_eq_false_iff_not] at h
    obtain ⟨hg, hE⟩ := h
    obtain ⟨l1, l2, l3⟩ := ck_len hE
    obtain ⟨k, hk, hkl⟩ := modN a n.ls.length ha.1
    have kb : 0 ≤ a % ((n.ls.length : Int) + 1) ∧ a % ((n.ls.length : Int) + 1) ≤ n.ls.length := by omega
    obtain ⟨c1, c2, c3⟩ := ck_cut hE hkl
    have hml := cut_len hkl
    have e1 := fnGTotal (ntCut n k)
    have e2 := fnGTotal n
    rw [total_eq] at e1 e2
    have hgt := cut_gt hE hkl g
    have e3 := fnGGate (ntCut n k) g
    have e4 := fnGGate n g
    have e5 := fnGStages (ntCut n k) (by omega)
    have hsl := stA_len (ntCut n k)
    have hsi : (stL (ntCut n k)).length ≤ 1000 := by rw [← stA_len]; exact Nat.le_trans (stI_len _ _) (by omega)
    apply Sym.skip
    apply thenS.nx
    apply Sym.seq
    apply Sym.regionL
    refine z_s1 ?_
    rw [hk]
    refine z_go ?_
    (apply Sym.drawXL [7, 8] (by kernel_rfl) (by kernel_rfl) (by kernel_rfl))
    refine z_xgo ?_
    have k1 := e1; have k2 := e3; have k3 := e4; refine z_go ?_
    clear e1 e3 e4
    obtain ⟨q1, q2, q3⟩ := hgt
    refine Sym.loop (fun r s => ∃ j : Nat, j ≤ (stL (ntCut n k)).length ∧ r = (stL (ntCut n k)).length - j ∧ s = ⟨[(15, true, .p (.i j)), (14, true, .p (.b (gtM n g).2)), (13, true, .ptr 3 0), (12, true, .p (.b (gtM (ntCut n k) g).2)), (11, true, .ptr 2 0), (10, true, .p (.i ((gA (ntCut n k)).length : Nat))), (9, true, .ptr 1 0), (7, true, .p (.b true)), (3, true, .ptr 0 0), (2, true, .p (.i g))], [some (ntBox n), some (ntBox (ntCut n k)), some (gtBox (gtM (ntCut n k) g).1), some (gtBox (gtM n g).1)]⟩) (stL (ntCut n k)).length ⟨_, ⟨0, Nat.zero_le _, by simp, rfl⟩, z_wkt⟩ ?_
    rintro r s ⟨j, hj, rfl, rfl⟩
    have k1 := e5; refine z_go ?_
    apply Sym.cond
    · rfl
    · intro hlt
      simp only [decide_eq_true_eq] at hlt
      have hrg := cut_rg hE hkl (j := j) (by omega)
      have r1 := fnGRange (ntCut n k) j (by omega)
      have r2 := fnGRange n j (by omega)
      rw [hrg] at r1
      have k1 := r1; have k2 := r2; refine z_go ?_
      apply Sym.cond
      · rfl
      · intro hbad
        exfalso
        simp at hbad
      · intro _
        refine z_go ?_
        refine ⟨_, ?_, _, ⟨j + 1, by omega, rfl, rfl⟩, z_wkt⟩
        omega
    · intro _
      have k1 := e2; refine z_go ?_
      with_reducible first | apply Fin.rt | apply Fin.nx
      refine .cons (.tmp rfl (.of (.of ?_))) .nil
      simp only [D.toV]
      by_cases hb : (gtM (ntCut n k) g).2 = true
      · have hb1 : (gtM n g).2 = true := by rw [q1 hb]; exact hb
        rw [← q1 hb]
        simp [hb1, q3]
      · have hb2 := hb
        rw [q2] at hb2
        have hb3 : (gtM (ntCut n k) g).2 = false := by simpa using hb
        simp [hb3, q3]
        omega
end Go.Proofs.Ytfnbofkhgimkcaa
