/- Layer 7: F, of package plain and of the document; the laws' head; the law PlainTells. -/
import Derived.Test.YtfnbofkhgimkcaaU4
set_option linter.unusedSimpArgs false
set_option linter.unusedVariables false
namespace Go.Proofs.Ytfnbofkhgimkcaa
open Go.RowKit Go.Sy
def foldF (n : Nt) (xs ws : List Int) (j : Nat) : List Int := (List.range j).foldl (fun y i => (laT n (i : Nat) y ws).1) xs
theorem foldF_succ (n : Nt) (xs ws : List Int) (j : Nat) : foldF n xs ws (j + 1) = (laT n j (foldF n xs ws j) ws).1 := by
  unfold foldF
  rw [List.range_succ, List.foldl_append]
  rfl
/-- what a network makes of a picture -/
def faT (n : Nt) (xs ws : List Int) : List Int × Bool := if ckE n = 0 ∧ (xs.length : Int) = shSize n.inp ∧ (ws.length : Int) = sumW (ckL n) then (foldF n xs ws n.ls.length, true) else ([], false)
set_option maxHeartbeats 4000000 in
theorem fnRF (n : Nt) (xs ws : List Int) : Fn1 Try.prog 26 [ntV n, V.list encU xs, V.list encU ws] (.tup [V.list encU (faT n xs ws).1, .b (faT n xs ws).2]) := by
  refine Fn1.of (rs := [V.list encU _, .b _]) (res := [.tmp 6, .tmp 7]) Try.call26 Try.func26 rfl Try.ntmps26 rfl (by simp) fun c hc => ?_
  have k1 := fnRSums n; have k2 := fnRRight n; have k3 := fnRShSize n.inp; refine z_go ?_
  apply Sym.cond
  · rfl
  · intro h
    rw [show faT n xs ws = ([], false) by
      unfold faT
      rw [if_neg]
      simp at h
      omega]
    refine z_go ?_
    with_reducible first | apply Fin.rt | apply Fin.nx
    exact .cons (.tmp rfl (.of (.mk rfl z_vle))) (.cons (.tmp rfl (.of (.of rfl))) .nil)
  · intro h
    have hv : ckE n = 0 ∧ (xs.length : Int) = shSize n.inp ∧ (ws.length : Int) = sumW (ckL n) := by
      simp at h
      omega
    obtain ⟨l1, l2, l3⟩ := ck_len hv.1
    have hz := shSize_b n.inp
    rw [show faT n xs ws = (foldF n xs ws n.ls.length, true) from if_pos hv]
    have a1 : AppH encU [] xs := .mk; refine z_go ?_
    refine Sym.loop (fun k s => ∃ j : Nat, j ≤ n.ls.length ∧ k = n.ls.length - j ∧ s = ⟨[(11, true, .p (.i j)), (10, true, .p (V.list encU (foldF n xs ws j))), (2, true, .p (V.list encU ws)), (3, true, .ptr 0 0)], [some (ntBox n)]⟩) n.ls.length ⟨_, ⟨0, Nat.zero_le _, by simp, rfl⟩, z_wkt⟩ ?_
    rintro k s ⟨j, hj, rfl, rfl⟩
    refine z_go ?_
    apply Sym.cond
    · rfl
    · intro hlt
      simp only [decide_eq_true_eq] at hlt
      have k1 := fnRLayer7 n j (foldF n xs ws j) ws; refine z_go ?_
      refine ⟨_, ?_, _, ⟨j + 1, by omega, rfl, rfl⟩, ?_⟩
      · omega
      · rw [foldF_succ]
        exact z_wkt
    · intro hge
      simp only [decide_eq_false_iff_not] at hge
      obtain rfl : j = n.ls.length := by omega
      refine z_go ?_
      with_reducible first | apply Fin.rt | apply Fin.nx
      exact .cons (.tmp rfl (.of (.mk rfl z_vle))) (.cons (.tmp rfl (.of (.of rfl))) .nil)
/-! ### the laws' head -/
def h7n : Nt := ⟨⟨1, 2, 2⟩, [⟨1, 1, 2, 1⟩, ⟨2, 0, 0, 0⟩, ⟨4, 2, 0, 0⟩]⟩
def h7m : Nt := ⟨⟨1, 2, 2⟩, [⟨3, 0, 2, 0⟩]⟩
theorem head7_vals : faT h7n [1, 2, 3, 4] [1, 0, 0, 2, 3, 18446744073709551615] = ([243, 18446744073709551535], true) ∧ laT h7n 0 [1, 2, 3, 4] [1, 0, 0, 2, 3, 5] = ([9], true) ∧ faT h7m [1, 2, 3, 4] [] = ([10], true) ∧ (faT h7n [1, 2, 3] [1, 0, 0, 2, 3, 5]).2 = false := by
  decide +kernel
theorem laT_len (n : Nt) (i : Int) (xs ws : List Int) : (laT n i xs ws).1.length ≤ 128 := by
  unfold laT
  split
  · split
    · rename_i x hx
      unfold laX
      have := shSize_b x.out
      split
      · simp
        omega
      · simp
    · simp
  · simp
theorem faT_len (n : Nt) (xs ws : List Int) : (faT n xs ws).1.length ≤ 128 := by
  unfold faT
  split
  · rename_i hv
    have hz := shSize_b n.inp
    cases h : n.ls.length with
    | zero =>
      show (foldF n xs ws 0).length ≤ 128
      show xs.length ≤ 128
      omega
    | succ j =>
      rw [foldF_succ]
      exact laT_len _ _ _ _
  · simp
end Go.Proofs.Ytfnbofkhgimkcaa
