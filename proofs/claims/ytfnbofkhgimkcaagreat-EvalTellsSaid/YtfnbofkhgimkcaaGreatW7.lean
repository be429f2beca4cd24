/- Layer 13: head, great, and what a stage's layer makes. -/
import Derived.Test.YtfnbofkhgimkcaaGreatW6
import Derived.Test.YtfnbofkhgimkcaaGreatVB
set_option linter.unusedSimpArgs false
set_option linter.unusedVariables false
namespace Go.Proofs.YtfnbofkhgimkcaaGreat
open Go.RowKit Go.Sy
def h13 : Nt := ⟨⟨1, 2, 2⟩, [⟨3, 0, 2, 0⟩, ⟨2, 0, 0, 0⟩]⟩
theorem head13_vals : firstT h13 [1, 0, 0, 0] = ([1], true) ∧ firstT h13 [0, 0, 1, 1] = ([2], true) ∧ lineT h13 0 9 0 [1] [] = ([5859373336115519389, 4598867505867396511], true) ∧ lineT h13 1 9 0 [2] [] = ([3969486743262896034, 13603488295654226017], true) ∧
    nextT h13 0 9 0 [5859373336115519389, 4598867505867396511] [3969486743262896034, 13603488295654226017] = ([12008602517668347860], true) ∧ nextT h13 1 9 0 [3969486743262896034, 13603488295654226017] [5859373336115519389, 4598867505867396511] = ([6438141556041203765], true) ∧
    lineT h13 0 9 1 [12008602517668347860] [] = ([12008602517668347860], true) ∧ nextT h13 1 9 1 [6438141556041203765] [12008602517668347860] = ([9], true) ∧ lineT h13 0 9 2 [1] [] = ([], false) ∧ addL [12008602517668347860] [6438141556041203765] = [9] := by
  decide +kernel
set_option maxHeartbeats 4000000 in
theorem fnHead13 : Fn1 Tryz.prog 4 [] (.b true) := by
  refine Fn1.of (rs := [.b true]) (res := [.tmp 0]) Tryz.call4 Tryz.func4 rfl Tryz.ntmps4 rfl (by simp) fun c hc => ?_
  obtain ⟨e1, e2, e3, e4, e5, e6, e7, e8, e9, e10⟩ := head13_vals
  have q1 := fnFirst h13 [1, 0, 0, 0] (by decide)
  have q2 := fnFirst h13 [0, 0, 1, 1] (by decide)
  have q3 := fnLine h13 0 9 0 [1] [] (by decide)
  have q4 := fnLine h13 1 9 0 [2] [] (by decide)
  have q5 := fnNext h13 0 9 0 [5859373336115519389, 4598867505867396511] [3969486743262896034, 13603488295654226017] (by decide)
  have q6 := fnNext h13 1 9 0 [3969486743262896034, 13603488295654226017] [5859373336115519389, 4598867505867396511] (by decide)
  have q7 := fnLine h13 0 9 1 [12008602517668347860] [] (by decide)
  have q8 := fnNext h13 1 9 1 [6438141556041203765] [12008602517668347860] (by decide)
  have q9 := fnLine h13 0 9 2 [1] [] (by decide)
  have qa := fnAddU [12008602517668347860] [6438141556041203765] (by decide) (by decide)
  have qb := fnSameU [1] [1] (by decide)
  have qc := fnSameU [2] [2] (by decide)
  have qd := fnSameU [9] [9] (by decide)
  rw [e1] at q1
  rw [e2] at q2
  rw [e3] at q3
  rw [e4] at q4
  rw [e5] at q5
  rw [e6] at q6
  rw [e7] at q7
  rw [e8] at q8
  rw [e9] at q9
  rw [e10] at qa
  clear e1 e2 e3 e4 e5 e6 e7 e8 e9 e10
  have k1 := q1; have k2 := q2; have k3 := q3; have k4 := q4; have k5 := q5; have k6 := q6; have k7 := q7; have k8 := q8; have k9 := q9; have k10 := qa; have k11 := qb; have k12 := qc; have k13 := qd; refine z_go ?_
  with_reducible first | apply Fin.rt | apply Fin.nx
  refine .cons (.tmp rfl (.of (.of ?_))) .nil
  kernel_rfl
theorem fnGreat13 (n : Nt) (ls : List (List Int)) (hls : ls.length ≤ 100) : Fn1 Tryz.prog 5 [ntV n, V.list encLs ls] (.b (great7 n ls)) := by
  refine Fn1.of (rs := [.b _]) (res := [.tmp 4]) Tryz.call5 Tryz.func5 rfl Tryz.ntmps5 rfl (by simp) fun c hc => ?_
  refine z_go ?_
  refine Sym.loop (fun k s => ∃ i : Nat, i ≤ ls.length ∧ (ls.take i).any (fun l => decide (l.length > 3000)) = false ∧ k = ls.length - i ∧ s = ⟨[(5, true, .p (.i i)), (2, true, .ptr 0 0), (1, true, .p (V.list encLs ls))], [some (ntBox n)]⟩) ls.length ⟨_, ⟨0, Nat.zero_le _, by simp, by simp, rfl⟩, z_wkt⟩ ?_
  rintro k s ⟨i, hi, hno, rfl, rfl⟩
  refine z_go ?_
  apply Sym.cond
  · rfl
  · intro hlt
    simp only [decide_eq_true_eq] at hlt
    obtain ⟨x, hx⟩ : ∃ x, ls[i]? = some x := ⟨_, List.getElem?_eq_getElem (by omega)⟩
    refine z_go ?_
    apply Sym.cond
    · rfl
    · intro h
      simp only [decide_eq_true_eq] at h
      rw [show great7 n ls = true by
        unfold great7
        rw [Bool.or_eq_true]
        left
        rw [List.any_eq_true]
        exact ⟨x, List.mem_of_getElem? hx, by simp; omega⟩]
      refine z_go ?_
      with_reducible first | apply Fin.rt | apply Fin.nx
      exact (.cons (.tmp rfl (.of (.of rfl))) .nil)
    · intro h
      simp only [decide_eq_false_iff_not] at h
      refine z_go ?_
      refine ⟨_, ?_, _, ⟨i + 1, by omega, ?_, rfl, rfl⟩, z_wkt⟩
      · omega
      · rw [List.take_add_one, hx, List.any_append, hno]
        simp
        omega
  · intro hge
    simp only [decide_eq_false_iff_not] at hge
    obtain rfl : i = ls.length := by omega
    rw [List.take_length] at hno
    rw [show great7 n ls = decide ((n.ls.length : Int) > 60) by unfold great7; rw [hno, Bool.false_or]]
    have k1 := fnGreat4 n; refine z_go ?_
    with_reducible first | apply Fin.rt | apply Fin.nx
    exact (.cons (.tmp rfl (.of (.of rfl))) .nil)
/-- what a stage's layer, and the Pools behind it, make -/
def thrT (n : Nt) (i : Nat) (xs ws : List Int) : List Int := plT n ws (i + 1) (laT n i xs ws).1
end Go.Proofs.YtfnbofkhgimkcaaGreat
