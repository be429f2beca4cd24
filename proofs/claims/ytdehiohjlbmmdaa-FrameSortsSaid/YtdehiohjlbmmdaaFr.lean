/- Frames' bytes, cut, with more, and in order: plain laws. -/
import Derived.Test.YtdehiohjlbmmdaaF1
set_option linter.unusedSimpArgs false
set_option linter.unusedVariables false
namespace Go.Proofs.Ytdehiohjlbmmdaa
open Go.RowKit Go.Sy
theorem sub_take (l m : List UInt8) (h : l.take 21 = m.take 21) (a b : Nat) (hb : b ≤ 21) : sub l a b = sub m a b := by
  unfold sub
  have : l.take b = m.take b := by
    have e1 : l.take b = (l.take 21).take b := by rw [List.take_take, Nat.min_eq_left hb]
    have e2 : m.take b = (m.take 21).take b := by rw [List.take_take, Nat.min_eq_left hb]
    rw [e1, e2, h]
  rw [this]
theorem refRaw_like (f : Fr) (h : frRight f = true) (l : List UInt8) (hl : l.take 21 = (frPut f).take 21) : refRaw l = ⟨f.kind, f.frm, f.too, f.num, l.drop 21⟩ := by
  have e := frRaw_put f h
  unfold refRaw at e ⊢
  have e0 : l.getD 0 0 = (frPut f).getD 0 0 := by
    have := congrArg (fun q => q.getD 0 0) hl
    simpa [List.getD] using this
  rw [e0, sub_take l _ hl 1 9 (by decide), sub_take l _ hl 9 17 (by decide), sub_take l _ hl 17 21 (by decide)]
  have e1 := congrArg Fr.kind e
  have e2 := congrArg Fr.frm e
  have e3 := congrArg Fr.too e
  have e4 := congrArg Fr.num e
  simp only at e1 e2 e3 e4
  rw [e1, e2, e3, e4]
theorem frGet_like (f : Fr) (h : frRight f = true) (l : List UInt8) (h21 : 21 ≤ l.length) (hl : l.take 21 = (frPut f).take 21) :
    frGet l = if frRight ⟨f.kind, f.frm, f.too, f.num, l.drop 21⟩ then (⟨f.kind, f.frm, f.too, f.num, l.drop 21⟩, true) else (Fr.zero, false) := by
  unfold frGet
  rw [if_neg (by omega), frRaw_eq l h21, refRaw_like f h l hl]
theorem frPut_drop (f : Fr) (h : frRight f = true) : (frPut f).drop 21 = f.body := by
  have e := frRaw_put f h
  unfold refRaw at e
  exact congrArg Fr.body e
theorem frGet_cut (f : Fr) (h : frRight f = true) (k : Nat) (hk : k < (frPut f).length) :
    frGet ((frPut f).take k) = if f.kind = 2 ∧ 22 ≤ k then (⟨f.kind, f.frm, f.too, f.num, f.body.take (k - 21)⟩, true) else (Fr.zero, false) := by
  have hlen := frPut_len h
  by_cases h21 : k < 21
  · unfold frGet
    rw [if_pos (by rw [List.length_take]; omega), if_neg (by omega)]
  · have hd : ((frPut f).take k).drop 21 = f.body.take (k - 21) := by rw [List.drop_take, frPut_drop f h]
    rw [frGet_like f h _ (by rw [List.length_take]; omega) (by rw [List.take_take, Nat.min_eq_left (by omega)]), hd]
    have : frRight ⟨f.kind, f.frm, f.too, f.num, f.body.take (k - 21)⟩ = decide (f.kind = 2 ∧ 22 ≤ k) := by
      rw [Bool.eq_iff_iff]
      unfold frRight at h ⊢
      simp only [decide_eq_true_eq, List.length_take] at h ⊢
      omega
    rw [this]
    by_cases hc : f.kind = 2 ∧ 22 ≤ k
    · rw [if_pos hc, if_pos (by simpa using hc)]
    · rw [if_neg hc, if_neg (by simpa using hc)]
theorem frGet_more (f : Fr) (h : frRight f = true) (c : UInt8) :
    frGet (frPut f ++ [c]) = if f.kind = 2 ∧ f.body.length < 50 then (⟨f.kind, f.frm, f.too, f.num, f.body ++ [c]⟩, true) else (Fr.zero, false) := by
  have hlen := frPut_len h
  have hd : (frPut f ++ [c]).drop 21 = f.body ++ [c] := by rw [List.drop_append_of_le_length (by omega), frPut_drop f h]
  rw [frGet_like f h _ (by simp; omega) (by rw [List.take_append_of_le_length (by omega)]), hd]
  have : frRight ⟨f.kind, f.frm, f.too, f.num, f.body ++ [c]⟩ = decide (f.kind = 2 ∧ f.body.length < 50) := by
    rw [Bool.eq_iff_iff]
    unfold frRight at h ⊢
    simp only [decide_eq_true_eq, List.length_append, List.length_singleton] at h ⊢
    omega
  rw [this]
  by_cases hc : f.kind = 2 ∧ f.body.length < 50
  · rw [if_pos hc, if_pos (by simpa using hc)]
  · rw [if_neg hc, if_neg (by simpa using hc)]
theorem less_app : ∀ (a x y : List UInt8), Op.bytesLess (a ++ x) (a ++ y) = Op.bytesLess x y
  | [], _, _ => rfl
  | c :: a, x, y => by
    simp only [List.cons_append, Op.bytesLess]
    rw [less_app a x y]
    simp
theorem less_self : ∀ a : List UInt8, Op.bytesLess a a = false
  | [] => rfl
  | c :: a => by simp [Op.bytesLess, less_self a]
theorem less_cons (a b : UInt8) (x y : List UInt8) : Op.bytesLess (a :: x) (b :: y) = (decide (a.toNat < b.toNat) || (decide (a.toNat = b.toNat) && Op.bytesLess x y)) := by
  simp only [Op.bytesLess]
  congr 1
  congr 1
  rw [Bool.eq_iff_iff]
  simp [UInt8.toNat_inj]
theorem less_num (n m : Int) (n0 : 0 ≤ n) (n1 : n < 4294967296) (m0 : 0 ≤ m) (m1 : m < 4294967296) (b : List UInt8) : Op.bytesLess (numB n 4 ++ b) (numB m 4 ++ b) = decide (n < m) := by
  have e : ∀ q : Int, numB q 4 = [byteAt q 3, byteAt q 2, byteAt q 1, byteAt q 0] := fun q => rfl
  rw [e, e]
  simp only [List.cons_append, List.nil_append, less_cons, less_self]
  have v : ∀ (q : Int) (j : Nat), ((byteAt q j).toNat : Int) = q / 2 ^ (8 * j) % 256 := byteAt_val
  have a0 := v n 0; have a1 := v n 1; have a2 := v n 2; have a3 := v n 3
  have b0 := v m 0; have b1 := v m 1; have b2 := v m 2; have b3 := v m 3
  simp only [show (2 : Int) ^ (8 * 0) = 1 by decide, show (2 : Int) ^ (8 * 1) = 256 by decide, show (2 : Int) ^ (8 * 2) = 65536 by decide, show (2 : Int) ^ (8 * 3) = 16777216 by decide] at a0 a1 a2 a3 b0 b1 b2 b3
  generalize (byteAt n 0).toNat = x0 at *
  generalize (byteAt n 1).toNat = x1 at *
  generalize (byteAt n 2).toNat = x2 at *
  generalize (byteAt n 3).toNat = x3 at *
  generalize (byteAt m 0).toNat = y0 at *
  generalize (byteAt m 1).toNat = y1 at *
  generalize (byteAt m 2).toNat = y2 at *
  generalize (byteAt m 3).toNat = y3 at *
  have en : n = 16777216 * (x3 : Int) + 65536 * (x2 : Int) + 256 * (x1 : Int) + x0 := by clear b0 b1 b2 b3; omega
  have em : m = 16777216 * (y3 : Int) + 65536 * (y2 : Int) + 256 * (y1 : Int) + y0 := by clear a0 a1 a2 a3 en; omega
  have c0 : x0 < 256 ∧ x1 < 256 ∧ x2 < 256 ∧ x3 < 256 := by clear b0 b1 b2 b3 en em; omega
  have d0 : y0 < 256 ∧ y1 < 256 ∧ y2 < 256 ∧ y3 < 256 := by clear a0 a1 a2 a3 en em; omega
  clear a0 a1 a2 a3 b0 b1 b2 b3 v e
  rw [Bool.eq_iff_iff]
  simp only [Bool.or_eq_true, Bool.and_eq_true, decide_eq_true_eq, Bool.and_false, Bool.or_false]
  subst en
  subst em
  omega
theorem frPut_sorts (f : Fr) (q : Int) (h : frRight f = true) (h' : frRight ⟨f.kind, f.frm, f.too, q, f.body⟩ = true) : Op.bytesLess (frPut f) (frPut ⟨f.kind, f.frm, f.too, q, f.body⟩) = decide (f.num < q) := by
  unfold frPut
  rw [if_pos h, if_pos h', bytesOf_frNums, bytesOf_frNums]
  simp only [List.append_assoc, less_app]
  unfold frRight at h h'
  simp only [decide_eq_true_eq] at h h'
  exact less_num _ _ (by omega) (by omega) (by omega) (by omega) _
end Go.Proofs.Ytdehiohjlbmmdaa
