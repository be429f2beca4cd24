/- Layer 7: F, of package plain and of the document; the laws' head; the law PlainTells. -/
import Derived.Test.YtfnbofkhgimkcaaGreatU4
set_option linter.unusedSimpArgs false
set_option linter.unusedVariables false
namespace Go.Proofs.YtfnbofkhgimkcaaGreat
open Go.RowKit Go.Sy
def foldF (n : Nt) (xs ws : List Int) (j : Nat) : List Int := (List.range j).foldl (fun y i => (laT n (i : Nat) y ws).1) xs
theorem foldF_succ (n : Nt) (xs ws : List Int) (j : Nat) : foldF n xs ws (j + 1) = (laT n j (foldF n xs ws j) ws).1 := by
  unfold foldF
  rw [List.range_succ, List.foldl_append]
  rfl
/-- what a network makes of a picture -/
def faT (n : Nt) (xs ws : List Int) : List Int × Bool := if ckE n = 0 ∧ (xs.length : Int) = shSize n.inp ∧ (ws.length : Int) = sumW (ckL n) then (foldF n xs ws n.ls.length, true) else ([], false)
/-! ### the laws' head -/
def h7n : Nt := ⟨⟨1, 2, 2⟩, [⟨1, 1, 2, 1⟩, ⟨2, 0, 0, 0⟩, ⟨4, 2, 0, 0⟩]⟩
def h7m : Nt := ⟨⟨1, 2, 2⟩, [⟨3, 0, 2, 0⟩]⟩
theorem head7_vals : faT h7n [1, 2, 3, 4] [1, 0, 0, 2, 3, 18446744073709551615] = ([243, 18446744073709551535], true) ∧ laT h7n 0 [1, 2, 3, 4] [1, 0, 0, 2, 3, 5] = ([9], true) ∧ faT h7m [1, 2, 3, 4] [] = ([10], true) ∧ (faT h7n [1, 2, 3] [1, 0, 0, 2, 3, 5]).2 = false := by
  decide +kernel
theorem laT_len (n : Nt) (i : Int) (xs ws : List Int) : (laT n i xs ws).1.length ≤ 128 := by
  unfold laT
  split
  · split
    · rename_i x hx
      unfold laX
      have := shSize_b x.out
      split
      · simp
        omega
      · simp
    · simp
  · simp
theorem faT_len (n : Nt) (xs ws : List Int) : (faT n xs ws).1.length ≤ 128 := by
  unfold faT
  split
  · rename_i hv
    have hz := shSize_b n.inp
    cases h : n.ls.length with
    | zero =>
      show (foldF n xs ws 0).length ≤ 128
      show xs.length ≤ 128
      omega
    | succ j =>
      rw [foldF_succ]
      exact laT_len _ _ _ _
  · simp
end Go.Proofs.YtfnbofkhgimkcaaGreat
