/- The plain laws of the frames' bytes: unlike right frames have unlike bytes. -/
import Derived.Test.YtdehiohjlbmmdaaFe
namespace Go.Proofs.Ytdehiohjlbmmdaa
open Go.RowKit Go.Sy
theorem frPut_none {f : Fr} (h : frRight f = false) : frPut f = [] := by unfold frPut; rw [h]; rfl
theorem frPut_len {f : Fr} (h : frRight f = true) : (frPut f).length = 21 + f.body.length := by
  unfold frPut
  rw [if_pos h, bytesOf_frNums]
  simp only [List.length_append, numB_len, List.length_cons, List.length_nil]
theorem frPut_length (f : Fr) : (frPut f).length = if frRight f = true then 21 + f.body.length else 0 := by
  cases h : frRight f
  · rw [frPut_none h]; rfl
  · rw [frPut_len h]; rfl
theorem byteAt_div (n : Int) (j : Nat) : byteAt (n / 256) j = byteAt n (j + 1) := by
  apply UInt8.toNat_inj.1
  have h1 := byteAt_256 (n / 256) j
  have h2 := byteAt_256 n (j + 1)
  rw [Int.ediv_ediv_of_nonneg (by decide), Int.mul_comm, ← Int.pow_succ, Nat.succ_eq_add_one] at h1
  omega
theorem numB_succ (n : Int) (m : Nat) : numB n (m + 1) = numB (n / 256) m ++ [byteAt n 0] := by
  unfold numB
  rw [List.range_succ, List.map_append]
  congr 1
  · apply List.map_congr_left
    intro k hk
    have := List.mem_range.1 hk
    rw [byteAt_div]
    congr 1
    omega
  · simp
theorem numB_inj : ∀ (m : Nat) (n n' : Int), 0 ≤ n → n < 256 ^ m → 0 ≤ n' → n' < 256 ^ m → numB n m = numB n' m → n = n'
  | 0, n, n', h1, h2, h3, h4, _ => by rw [Int.pow_zero] at h2 h4; omega
  | m + 1, n, n', h1, h2, h3, h4, h => by
    rw [numB_succ, numB_succ] at h
    obtain ⟨h5, h6⟩ := List.append_inj h (by rw [numB_len, numB_len])
    rw [Int.pow_succ] at h2 h4
    have h7 := numB_inj m (n / 256) (n' / 256) (by omega) (Int.ediv_lt_of_lt_mul (by decide) h2) (by omega) (Int.ediv_lt_of_lt_mul (by decide) h4) h5
    have h8 : byteAt n 0 = byteAt n' 0 := by injection h6
    have k1 := byteAt_256 n 0
    have k2 := byteAt_256 n' 0
    rw [Int.pow_zero, Int.ediv_one] at k1 k2
    rw [h8] at k1
    omega
theorem frRight_lt {f : Fr} (h : frRight f = true) : (0 ≤ f.kind ∧ f.kind < 256) ∧ (0 ≤ f.frm ∧ f.frm ≤ 281474976710656) ∧ (0 ≤ f.too ∧ f.too ≤ 281474976710656) ∧ 0 ≤ f.num ∧ f.num ≤ 1073741824 := by
  unfold frRight at h
  simp only [decide_eq_true_eq] at h
  omega
theorem frPut_inj {f g : Fr} (hf : frRight f = true) (hg : frRight g = true) (h : frPut f = frPut g) : f = g := by
  unfold frPut at h
  rw [if_pos hf, if_pos hg, bytesOf_frNums, bytesOf_frNums] at h
  obtain ⟨⟨f1, f1'⟩, ⟨f2, f2'⟩, ⟨f3, f3'⟩, f4, f4'⟩ := frRight_lt hf
  obtain ⟨⟨g1, g1'⟩, ⟨g2, g2'⟩, ⟨g3, g3'⟩, g4, g4'⟩ := frRight_lt hg
  obtain ⟨h, h5⟩ := List.append_inj h (by simp [numB_len])
  obtain ⟨h, h4⟩ := List.append_inj h (by simp [numB_len])
  obtain ⟨h, h3⟩ := List.append_inj h (by simp [numB_len])
  obtain ⟨h, h2⟩ := List.append_inj h (by simp)
  have h8 : byteAt f.kind 0 = byteAt g.kind 0 := by injection h
  have k1 := byteAt_256 f.kind 0
  have k2 := byteAt_256 g.kind 0
  rw [Int.pow_zero, Int.ediv_one] at k1 k2
  rw [h8] at k1
  have e1 : f.kind = g.kind := by omega
  have e2 := numB_inj 8 f.frm g.frm f2 (by simp; omega) g2 (by simp; omega) h2
  have e3 := numB_inj 8 f.too g.too f3 (by simp; omega) g3 (by simp; omega) h3
  have e4 := numB_inj 4 f.num g.num f4 (by simp; omega) g4 (by simp; omega) h4
  cases f; cases g; simp_all
theorem apart_ok {a b : Fr} (ha : frRight a = true) (hb : frRight b = true) : (((strB (frPut a)).toList == (strB (frPut b)).toList) == frSame a b) = true := by
  rw [strB_eq]
  have : decide (frPut a = frPut b) = frSame a b := by
    by_cases h : a = b
    · subst h; rw [(frSame_iff a a).2 rfl]; exact decide_eq_true rfl
    · have h1 : ¬ frPut a = frPut b := fun k => h (frPut_inj ha hb k)
      have h2 : frSame a b = false := by
        cases h3 : frSame a b with
        | false => rfl
        | true => exact absurd ((frSame_iff a b).1 h3) h
      rw [h2]; exact decide_eq_false h1
  rw [this]
  cases frSame a b <;> rfl
end Go.Proofs.Ytdehiohjlbmmdaa
