/- The plain laws of the frames' bytes: what is read of what was written, and the answer's reading is the package's. -/
import Derived.Test.YtdehiohjlbmmdaaFq
namespace Go.Proofs.Ytdehiohjlbmmdaa
open Go.RowKit Go.Sy
theorem rd1_eq (n : Int) (c : UInt8) : rd1 n c = rm1 n c := by
  unfold rd1 rm1
  have hc := c.toNat_lt
  generalize c.toNat = k at *
  have ha : wrap64 (n * 256) % 256 = 0 := by unfold wrap64; omega
  generalize wrap64 (n * 256) = a at *
  have h1 : ((BitVec.ofInt 64 a).toNat : Int) = a % 18446744073709551616 := by
    rw [BitVec.toNat_ofInt]
    have := Int.emod_nonneg a (show (18446744073709551616 : Int) ≠ 0 by decide)
    show (((a % 18446744073709551616).toNat : Nat) : Int) = _
    omega
  have h2 : (BitVec.ofInt 64 (k : Int)).toNat = k := by
    rw [BitVec.ofInt_natCast, BitVec.toNat_ofNat]; exact Nat.mod_eq_of_lt (by omega)
  show IntKind.i64.wrap ((BitVec.ofInt 64 a ||| BitVec.ofInt 64 (k : Int)).toNat : Int) = _
  rw [BitVec.toNat_or, h2]
  generalize (BitVec.ofInt 64 a).toNat = A at *
  have h3 : A % 256 = 0 := by omega
  have h4 : A ||| k = A + k := by
    have := Nat.two_pow_add_eq_or_of_lt (i := 8) (b := k) (by omega) (A / 256)
    rw [show 2 ^ 8 * (A / 256) = A by omega] at this
    exact this.symm
  rw [h4]
  simp [IntKind.wrap, IntKind.bits, IntKind.signed]
  unfold wrap64
  split <;> omega
theorem rdN_eq (l : List UInt8) : rdN l = rdM l := by
  unfold rdN rdM
  rw [show rd1 = rm1 from funext fun n => funext fun c => rd1_eq n c]
/-- the number that bytes are, the great end first -/
def be (l : List UInt8) : Int := l.foldl (fun n c => n * 256 + (c.toNat : Int)) 0
theorem be_snoc (l : List UInt8) (c : UInt8) : be (l ++ [c]) = be l * 256 + c.toNat := by unfold be; rw [List.foldl_append]; rfl
theorem rdM_snoc' (l : List UInt8) (c : UInt8) : rdM (l ++ [c]) = rm1 (rdM l) c := by unfold rdM; rw [List.foldl_append]; rfl
theorem snoc_ind {p : List UInt8 → Prop} (h0 : p []) (h1 : ∀ l c, p l → p (l ++ [c])) (l : List UInt8) : p l := by
  have : ∀ m : List UInt8, p m.reverse := by
    intro m
    induction m with
    | nil => exact h0
    | cons c m ih => rw [List.reverse_cons]; exact h1 _ _ ih
  have := this l.reverse
  rwa [List.reverse_reverse] at this
theorem rdM_be (l : List UInt8) : rdM l = wrap64 (be l) := by
  refine snoc_ind (p := fun l => rdM l = wrap64 (be l)) (by decide +kernel) (fun l c ih => ?_) l
  rw [rdM_snoc', be_snoc, ih]
  unfold rm1 wrap64
  omega
theorem be_lt (l : List UInt8) : 0 ≤ be l ∧ be l < 256 ^ l.length := by
  refine snoc_ind (p := fun l => 0 ≤ be l ∧ be l < 256 ^ l.length) (by decide) (fun l c ih => ?_) l
  have hc := c.toNat_lt
  rw [be_snoc, List.length_append, List.length_singleton, Int.pow_succ]
  omega
theorem be_cons (c : UInt8) (l : List UInt8) : be (c :: l) = c.toNat * 256 ^ l.length + be l := by
  refine snoc_ind (p := fun l => be (c :: l) = c.toNat * 256 ^ l.length + be l) (by simp [be]) (fun l d ih => ?_) l
  rw [← List.cons_append, be_snoc, be_snoc, ih, List.length_append, List.length_singleton, Int.pow_succ, ← Int.mul_assoc]
  omega
theorem numB_be (l : List UInt8) : numB (be l) l.length = l := by
  refine snoc_ind (p := fun l => numB (be l) l.length = l) (by rfl) (fun l c ih => ?_) l
  have hc := c.toNat_lt
  rw [List.length_append, List.length_singleton, numB_succ, be_snoc]
  have h1 : (be l * 256 + (c.toNat : Int)) / 256 = be l := by omega
  rw [h1, ih]
  congr 2
  apply UInt8.toNat_inj.1
  have k1 := byteAt_256 (be l * 256 + (c.toNat : Int)) 0
  rw [Int.pow_zero, Int.ediv_one] at k1
  omega
theorem be_numB : ∀ (m : Nat) (n : Int), 0 ≤ n → n < 256 ^ m → be (numB n m) = n
  | 0, n, h1, h2 => by rw [Int.pow_zero] at h2; show (0 : Int) = n; have := h1; omega
  | m + 1, n, h1, h2 => by
    rw [Int.pow_succ] at h2
    rw [numB_succ, be_snoc, be_numB m (n / 256) (by omega) (Int.ediv_lt_of_lt_mul (by decide) h2)]
    have k1 := byteAt_256 n 0
    rw [Int.pow_zero, Int.ediv_one] at k1
    omega
theorem rdM_numB (m : Nat) (n : Int) (h0 : 0 ≤ n) (h1 : n < 256 ^ m) (h2 : n < 9223372036854775808) : rdM (numB n m) = n := by
  rw [rdM_be, be_numB m n h0 h1]; unfold wrap64; omega
theorem rdM_inv (l : List UInt8) (h8 : l.length ≤ 8) (h0 : 0 ≤ rdM l) : numB (rdM l) l.length = l := by
  have hl := be_lt l
  have h2 : (256 : Int) ^ l.length ≤ 256 ^ 8 := by rw [p256, p256]; exact_mod_cast Nat.pow_le_pow_right (by decide) h8
  have h3 : (256 : Int) ^ 8 = 18446744073709551616 := by decide
  rw [rdM_be] at h0 ⊢
  have : wrap64 (be l) = be l := by unfold wrap64 at h0 ⊢; omega
  rw [this]
  exact numB_be l
theorem sub_eq (l : List UInt8) (i n : Nat) : rdSub l i n = rdM (sub l i (i + n)) := by
  unfold rdSub sub
  rw [rdN_eq, List.drop_take, Nat.add_sub_cancel_left]
theorem frRaw_eq (l : List UInt8) (h : 21 ≤ l.length) : frRaw l = refRaw l := by
  unfold frRaw refRaw
  rw [sub_eq, sub_eq, sub_eq, sub_eq]
  cases l with
  | nil => simp at h
  | cons c l =>
    have hc := c.toNat_lt
    have : rdM (sub (c :: l) 0 (0 + 1)) = (((c :: l).getD 0 0).toNat : Int) := by
      show rdM [c] = (c.toNat : Int)
      rw [rdM_be]
      show wrap64 (0 * 256 + (c.toNat : Int)) = _
      unfold wrap64
      omega
    rw [this]
theorem head_zero (l : List UInt8) (c : UInt8) (hl : l.length = 8) (h0 : l[0]? = some c) (h : 0 ≤ rdM l) (h2 : rdM l ≤ 281474976710656) : c = 0 := by
  cases l with
  | nil => simp at hl
  | cons d l =>
    obtain rfl : d = c := by simpa using h0
    have hl7 : l.length = 7 := by simpa using hl
    have h3 := be_cons d l
    have h4 := be_lt l
    have hc := d.toNat_lt
    rw [hl7] at h3 h4
    have h5 : (256 : Int) ^ 7 = 72057594037927936 := by decide
    rw [h5] at h3 h4
    rw [rdM_be] at h h2
    apply UInt8.toNat_inj.1
    show d.toNat = 0
    unfold wrap64 at h h2
    omega
theorem frGet_eq (l : List UInt8) : frGet l = refGet l := by
  unfold frGet refGet
  by_cases h21 : l.length < 21
  · rw [if_pos h21, if_pos (.inl h21)]
  rw [if_neg h21, frRaw_eq l (by omega)]
  by_cases hc : l.length < 21 ∨ 71 < l.length ∨ l.getD 1 0 ≠ 0 ∨ l.getD 9 0 ≠ 0
  · rw [if_pos hc, if_neg]
    intro hr
    unfold frRight refRaw at hr
    simp only [decide_eq_true_eq, List.length_drop] at hr
    rcases hc with h | h | h | h
    · omega
    · omega
    · apply h
      have e1 : l[1]? = some (l.getD 1 0) := by simp [List.getD, List.getElem?_eq_getElem (show 1 < l.length by omega)]
      exact head_zero (sub l 1 9) _ (by unfold sub; rw [List.length_drop, List.length_take]; omega) (by unfold sub; rw [List.getElem?_drop, List.getElem?_take, if_pos (by decide)]; exact e1) (by omega) (by omega)
    · apply h
      have e1 : l[9]? = some (l.getD 9 0) := by simp [List.getD, List.getElem?_eq_getElem (show 9 < l.length by omega)]
      exact head_zero (sub l 9 17) _ (by unfold sub; rw [List.length_drop, List.length_take]; omega) (by unfold sub; rw [List.getElem?_drop, List.getElem?_take, if_pos (by decide)]; exact e1) (by omega) (by omega)
  · rw [if_neg hc]
theorem frRaw_put (f : Fr) (h : frRight f = true) : refRaw (frPut f) = f := by
  have hp : frPut f = byteAt f.kind 0 :: (numB f.frm 8 ++ (numB f.too 8 ++ (numB f.num 4 ++ f.body))) := by
    unfold frPut
    rw [if_pos h, bytesOf_frNums]
    simp only [List.append_assoc, List.cons_append, List.nil_append]
  obtain ⟨⟨k0, k1⟩, ⟨a0, a1⟩, ⟨b0, b1⟩, c0, c1⟩ := frRight_lt h
  have e1 : sub (frPut f) 1 9 = numB f.frm 8 := by
    rw [hp]; unfold sub
    rw [List.take_succ_cons, List.drop_succ_cons, List.drop_zero, List.take_append, List.take_of_length_le (by rw [numB_len]; decide), numB_len, Nat.sub_self, List.take_zero, List.append_nil]
  have e2 : sub (frPut f) 9 17 = numB f.too 8 := by
    rw [hp]; unfold sub
    rw [List.take_succ_cons, List.drop_succ_cons, List.take_append, numB_len, List.take_of_length_le (by rw [numB_len]; decide), List.drop_append, numB_len, List.drop_of_length_le (by rw [numB_len]; decide), List.nil_append, Nat.sub_self, List.drop_zero, List.take_append, numB_len, List.take_of_length_le (by rw [numB_len]; decide), Nat.sub_self, List.take_zero, List.append_nil]
  have e3 : sub (frPut f) 17 21 = numB f.num 4 := by
    rw [hp]; unfold sub
    rw [List.take_succ_cons, List.drop_succ_cons, List.take_append, numB_len, List.take_of_length_le (by rw [numB_len]; decide), List.drop_append, numB_len, List.drop_of_length_le (by rw [numB_len]; decide), List.nil_append, List.take_append, numB_len, List.take_of_length_le (by rw [numB_len]; decide), List.drop_append, numB_len, List.drop_of_length_le (by rw [numB_len]; decide), List.nil_append, Nat.sub_self, List.drop_zero, List.take_append, numB_len, List.take_of_length_le (by rw [numB_len]; decide), Nat.sub_self, List.take_zero, List.append_nil]
  have e4 : (frPut f).drop 21 = f.body := by
    rw [hp]
    rw [List.drop_succ_cons, List.drop_append, numB_len, List.drop_of_length_le (by rw [numB_len]; decide), List.nil_append, List.drop_append, numB_len, List.drop_of_length_le (by rw [numB_len]; decide), List.nil_append, List.drop_append, numB_len, List.drop_of_length_le (by rw [numB_len]; decide), List.nil_append, Nat.sub_self, List.drop_zero]
  have e0 : (((frPut f).getD 0 0).toNat : Int) = f.kind := by
    rw [hp]
    show ((byteAt f.kind 0).toNat : Int) = _
    have k1 := byteAt_256 f.kind 0
    rw [Int.pow_zero, Int.ediv_one] at k1
    omega
  unfold refRaw
  rw [e0, e1, e2, e3, e4, rdM_numB 8 _ a0 (by simp; omega) (by omega), rdM_numB 8 _ b0 (by simp; omega) (by omega), rdM_numB 4 _ c0 (by simp; omega) (by omega)]
/-- what was put is got -/
theorem frGet_put (f : Fr) (h : frRight f = true) : frGet (frPut f) = (f, true) := by
  unfold frGet
  rw [frPut_len h, if_neg (by omega), frRaw_eq _ (by rw [frPut_len h]; omega), frRaw_put f h, if_pos h]
theorem frGet_nil : frGet [] = (Fr.zero, false) := by unfold frGet; rw [if_pos (by decide)]
theorem split_at (l : List UInt8) (h : 21 ≤ l.length) : l = [l.getD 0 0] ++ sub l 1 9 ++ sub l 9 17 ++ sub l 17 21 ++ l.drop 21 := by
  cases l with
  | nil => simp at h
  | cons c l =>
    show c :: l = [c] ++ (l.take 8) ++ ((l.take 16).drop 8) ++ ((l.take 20).drop 16) ++ l.drop 20
    simp only [List.cons_append, List.nil_append]
    congr 1
    have h1 : l.take 8 ++ (l.take 16).drop 8 = l.take 16 := by
      have := List.take_append_drop 8 (l.take 16)
      rwa [List.take_take, show min 8 16 = 8 by decide] at this
    have h2 : l.take 16 ++ (l.take 20).drop 16 = l.take 20 := by
      have := List.take_append_drop 16 (l.take 20)
      rwa [List.take_take, show min 16 20 = 16 by decide] at this
    rw [h1, h2, List.take_append_drop]
/-- the bytes of a frame are those of what is got of them -/
theorem frPut_get (l : List UInt8) (h : (frGet l).2 = true) : frRight (frGet l).1 = true ∧ frPut (frGet l).1 = l := by
  unfold frGet at h ⊢
  by_cases h21 : l.length < 21
  · rw [if_pos h21] at h; cases h
  rw [if_neg h21] at h ⊢
  cases hr : frRight (frRaw l)
  · rw [hr] at h; cases h
  rw [if_pos rfl]
  refine ⟨hr, ?_⟩
  rw [frRaw_eq l (by omega)] at hr ⊢
  obtain ⟨_, ⟨a0, a1⟩, ⟨b0, b1⟩, c0, c1⟩ := frRight_lt hr
  have n1 : (sub l 1 9).length = 8 := by unfold sub; rw [List.length_drop, List.length_take]; omega
  have n2 : (sub l 9 17).length = 8 := by unfold sub; rw [List.length_drop, List.length_take]; omega
  have n3 : (sub l 17 21).length = 4 := by unfold sub; rw [List.length_drop, List.length_take]; omega
  have m1 := rdM_inv (sub l 1 9) (by omega) a0
  have m2 := rdM_inv (sub l 9 17) (by omega) b0
  have m3 := rdM_inv (sub l 17 21) (by omega) c0
  rw [n1] at m1
  rw [n2] at m2
  rw [n3] at m3
  have hk : byteAt ((l.getD 0 0).toNat : Int) 0 = l.getD 0 0 := by
    apply UInt8.toNat_inj.1
    have k1 := byteAt_256 ((l.getD 0 0).toNat : Int) 0
    have := (l.getD 0 0).toNat_lt
    rw [Int.pow_zero, Int.ediv_one] at k1
    omega
  unfold frPut
  rw [if_pos hr, bytesOf_frNums]
  show [byteAt ((l.getD 0 0).toNat : Int) 0] ++ numB (rdM (sub l 1 9)) 8 ++ numB (rdM (sub l 9 17)) 8 ++ numB (rdM (sub l 17 21)) 4 ++ l.drop 21 = l
  rw [hk, m1, m2, m3]
  exact (split_at l (by omega)).symm
end Go.Proofs.Ytdehiohjlbmmdaa
