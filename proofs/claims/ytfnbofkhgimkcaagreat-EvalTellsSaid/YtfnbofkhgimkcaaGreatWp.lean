/- Layer 13, plain laws: numbers that look as if they were drawn, masks, and products in parts. -/
import Derived.Test.YtfnbofkhgimkcaaGreatU8
import Derived.Test.YtfnbofkhgimkcaaGreatVA
namespace Go.Proofs.YtfnbofkhgimkcaaGreat
open Go.RowKit Go.Sy
def bv (x : Int) : BitVec 64 := BitVec.ofInt 64 x
theorem uw_bv (x : Int) : uw x = ((bv x).toNat : Int) := by
  rw [uw_mod, bv, BitVec.toNat_ofInt]
  omega
theorem bv_uw (x : Int) : bv (uw x) = bv x := by
  apply BitVec.eq_of_toNat_eq
  rw [uw_mod, bv, bv, BitVec.toNat_ofInt, BitVec.toNat_ofInt]
  omega
theorem bv_add (x y : Int) : bv (x + y) = bv x + bv y := BitVec.ofInt_add x y
theorem bv_mul (x y : Int) : bv (x * y) = bv x * bv y := BitVec.ofInt_mul x y
theorem bv_neg (x : Int) : bv (-x) = - bv x := BitVec.ofInt_neg
theorem bv_sub (x y : Int) : bv (x - y) = bv x - bv y := by
  rw [Int.sub_eq_add_neg, bv_add, bv_neg, BitVec.sub_eq_add_neg]
theorem uw_ext {a b : Int} (h : bv a = bv b) : uw a = uw b := by rw [uw_bv, uw_bv, h]
theorem uw_in (a : Int) : 0 ≤ uw a ∧ uw a < 18446744073709551616 := by
  rw [uw_mod]; omega
theorem uw_self {a : Int} (h : 0 ≤ a ∧ a < 18446744073709551616) : uw a = a := by
  rw [uw_mod]; omega
/-- a number, with itself some bits down laid upon it -/
def sf (z : Int) (k : Nat) : Int := uw ((BitVec.ofInt 64 z ^^^ BitVec.ofInt 64 (z.fdiv (2 ^ k))).toNat : Nat)
theorem sf_in (z : Int) (k : Nat) : 0 ≤ sf z k ∧ sf z k < 18446744073709551616 := uw_in _
theorem sf_bv {z : Int} (h : 0 ≤ z ∧ z < 18446744073709551616) (k : Nat) : bv (sf z k) = bv z ^^^ (bv z >>> k) := by
  unfold sf
  rw [bv_uw]
  have h1 : BitVec.ofInt 64 (z.fdiv (2 ^ k)) = bv z >>> k := by
    apply BitVec.eq_of_toNat_eq
    obtain ⟨m, rfl⟩ : ∃ m : Nat, z = m := ⟨z.toNat, by omega⟩
    have hm : m < 2 ^ 64 := by omega
    have e1 : ((m : Int).fdiv (2 ^ k)) = ((m / 2 ^ k : Nat) : Int) := by
      rw [Int.fdiv_eq_ediv_of_nonneg _ (by exact_mod_cast Nat.zero_le (2 ^ k))]
      norm_cast
    have hd : m / 2 ^ k ≤ m := Nat.div_le_self _ _
    rw [e1, bv, BitVec.toNat_ushiftRight, BitVec.toNat_ofInt, BitVec.toNat_ofInt, Nat.shiftRight_eq_div_pow]
    have e2 : ((m : Int) % ((2 ^ 64 : Nat) : Int)).toNat = m := by omega
    have e3 : (((m / 2 ^ k : Nat) : Int) % ((2 ^ 64 : Nat) : Int)).toNat = m / 2 ^ k := by
      generalize m / 2 ^ k = q at hd
      omega
    rw [e2, e3]
  rw [h1]
  show bv ((bv z ^^^ bv z >>> k).toNat : Int) = _
  rw [bv, BitVec.ofInt_natCast, BitVec.ofNat_toNat]
  simp
theorem xs_inj {u v : BitVec 64} {k : Nat} (hk : 0 < k) (h : u ^^^ (u >>> k) = v ^^^ (v >>> k)) : u = v := by
  have h1 : u ^^^ v = (u ^^^ v) >>> k := by
    rw [BitVec.ushiftRight_xor_distrib]
    have h2 : (u ^^^ (u >>> k)) ^^^ ((u >>> k) ^^^ v) = (v ^^^ (v >>> k)) ^^^ ((u >>> k) ^^^ v) := by rw [h]
    have h3 : (u ^^^ (u >>> k)) ^^^ ((u >>> k) ^^^ v) = u ^^^ v := by
      rw [BitVec.xor_assoc, ← BitVec.xor_assoc (u >>> k), BitVec.xor_self, BitVec.zero_xor]
    have h4 : (v ^^^ (v >>> k)) ^^^ ((u >>> k) ^^^ v) = (u >>> k) ^^^ (v >>> k) := by
      rw [BitVec.xor_comm v, BitVec.xor_comm (u >>> k) v, BitVec.xor_assoc, ← BitVec.xor_assoc v, BitVec.xor_self, BitVec.zero_xor, BitVec.xor_comm]
    rw [← h3, h2, h4]
  have h5 : (u ^^^ v).toNat = (u ^^^ v).toNat / 2 ^ k := by
    have := congrArg BitVec.toNat h1
    rwa [BitVec.toNat_ushiftRight, Nat.shiftRight_eq_div_pow] at this
  have h6 : (u ^^^ v).toNat = 0 := by
    rcases Nat.eq_zero_or_pos (u ^^^ v).toNat with h0 | h0
    · exact h0
    · have := Nat.div_lt_self h0 (Nat.one_lt_two_pow (by omega : k ≠ 0))
      omega
  have h7 : u ^^^ v = 0#64 := BitVec.eq_of_toNat_eq (by simpa using h6)
  exact BitVec.xor_eq_zero_iff.1 h7
theorem bv_inj {a b : Int} (ha : 0 ≤ a ∧ a < 18446744073709551616) (hb : 0 ≤ b ∧ b < 18446744073709551616) (h : bv a = bv b) : a = b := by
  rw [← uw_self ha, ← uw_self hb]
  exact uw_ext h
theorem sf_inj {a b : Int} {k : Nat} (hk : 0 < k) (ha : 0 ≤ a ∧ a < 18446744073709551616) (hb : 0 ≤ b ∧ b < 18446744073709551616) (h : sf a k = sf b k) : a = b := by
  refine bv_inj ha hb (xs_inj hk ?_)
  rw [← sf_bv ha, ← sf_bv hb, h]
theorem mul_inj {c c' : Int} (hc : uw (c * c') = 1) {a b : Int} (ha : 0 ≤ a ∧ a < 18446744073709551616) (hb : 0 ≤ b ∧ b < 18446744073709551616) (h : uw (c * a) = uw (c * b)) : a = b := by
  have key : ∀ x, uw (c' * uw (c * x)) = uw x := fun x => by
    rw [uw_mulR, ← Int.mul_assoc, Int.mul_comm c' c, ← uw_mulL, hc, Int.one_mul]
  have := congrArg (fun x => uw (c' * x)) h
  simp only [key] at this
  rwa [uw_self ha, uw_self hb] at this
/-- a number of a seed's -/
def numS (seed i : Int) : Int := sf (uw (10723151780598845931 * sf (uw (13787848793156543929 * sf (uw (seed + uw (11400714819323198485 * uw (i + 1)))) 30)) 27)) 31
theorem numS_in (s i : Int) : 0 ≤ numS s i ∧ numS s i < 18446744073709551616 := sf_in _ _
theorem numS_inj {s t i : Int} (hs : 0 ≤ s ∧ s < 18446744073709551616) (ht : 0 ≤ t ∧ t < 18446744073709551616) (h : numS s i = numS t i) : s = t := by
  have h1 := sf_inj (by omega) (uw_in _) (uw_in _) h
  have h2 := mul_inj (c := 10723151780598845931) (c' := 3573116690164977347) (by rfl) (sf_in _ _) (sf_in _ _) h1
  have h3 := sf_inj (by omega) (uw_in _) (uw_in _) h2
  have h4 := mul_inj (c := 13787848793156543929) (c' := 10871156337175269513) (by rfl) (sf_in _ _) (sf_in _ _) h3
  have h5 := sf_inj (by omega) (uw_in _) (uw_in _) h4
  simp only [uw_mod] at h5
  omega
structure Tr where
  a : Int
  b : Int
  c : Int
def msk (s i : Int) (k : Int) : Int := numS s (uw (uw (5 * i) + k))
/-- a party's part of a triple -/
def halfT (s who i : Int) : Tr := if who = 0 then ⟨msk s i 0, msk s i 1, msk s i 2⟩ else ⟨msk s i 3, msk s i 4, uw (uw (uw (msk s i 0 + msk s i 3) * uw (msk s i 1 + msk s i 4)) - msk s i 2)⟩
def opnT (x y : Int) (t : Tr) : Int × Int := (uw (x - t.a), uw (y - t.b))
def sumT (o p : Int × Int) : Int × Int := (uw (o.1 + p.1), uw (o.2 + p.2))
def prtT (o : Int × Int) (t : Tr) : Int := uw (uw (t.c + uw (o.1 * t.b)) + uw (o.2 * t.a))
def clsT (who : Int) (o : Int × Int) (t : Tr) : Int := if who = 0 then uw (prtT o t + uw (o.1 * o.2)) else prtT o t
/-- both parties' parts of a product -/
theorem beaver (s i x0 x1 y0 y1 : Int) :
    uw (clsT 0 (sumT (opnT x0 y0 (halfT s 0 i)) (opnT x1 y1 (halfT s 1 i))) (halfT s 0 i) + clsT 1 (sumT (opnT x1 y1 (halfT s 1 i)) (opnT x0 y0 (halfT s 0 i))) (halfT s 1 i)) = uw ((x0 + x1) * (y0 + y1)) := by
  simp only [halfT, if_true, show ((1 : Int) = 0) = False by simp, if_false, clsT, sumT, opnT, prtT]
  apply uw_ext
  simp only [bv_uw, bv_add, bv_mul, bv_sub]
  generalize bv (msk s i 0) = a0
  generalize bv (msk s i 1) = a1
  generalize bv (msk s i 2) = a2
  generalize bv (msk s i 3) = a3
  generalize bv (msk s i 4) = a4
  generalize bv x0 = x0
  generalize bv x1 = x1
  generalize bv y0 = y0
  generalize bv y1 = y1
  grind
/-! ### what a party says of a layer's gates -/
def gY (xs ws : List Int) (g : Gt) : Int := if g.w < 0 then gx xs g.x else gx ws g.w
def sayG (s who : Int) (xs ws : List Int) (q : Int) (g : Gt) : List Int := [(opnT (gx xs g.x) (gY xs ws g) (halfT s who q)).1, (opnT (gx xs g.x) (gY xs ws g) (halfT s who q)).2]
def sayN (s who : Int) (xs ws : List Int) (fst : Int) (gs : List Gt) : Nat → List Int
  | 0 => []
  | k + 1 => match gs[k]? with
    | some g => sayN s who xs ws fst gs k ++ sayG s who xs ws (fst + k) g
    | none => sayN s who xs ws fst gs k
theorem sayN_succ {s who : Int} {xs ws : List Int} {fst : Int} {gs : List Gt} {k : Nat} {g : Gt} (h : gs[k]? = some g) : sayN s who xs ws fst gs (k + 1) = sayN s who xs ws fst gs k ++ sayG s who xs ws (fst + k) g := by
  rw [sayN, h]
theorem sayN_len (s who : Int) (xs ws : List Int) (fst : Int) (gs : List Gt) : ∀ k, k ≤ gs.length → (sayN s who xs ws fst gs k).length = 2 * k
  | 0, _ => rfl
  | k + 1, h => by
    rw [sayN_succ (List.getElem?_eq_getElem (show k < gs.length by omega)), List.length_append, sayN_len s who xs ws fst gs k (by omega)]
    simp [sayG]
    omega
theorem sayN_get {s who : Int} {xs ws : List Int} {fst : Int} {gs : List Gt} {j : Nat} {g : Gt} (h : gs[j]? = some g) : ∀ k, j < k → k ≤ gs.length →
    (sayN s who xs ws fst gs k)[2 * j]? = some (opnT (gx xs g.x) (gY xs ws g) (halfT s who (fst + j))).1 ∧ (sayN s who xs ws fst gs k)[2 * j + 1]? = some (opnT (gx xs g.x) (gY xs ws g) (halfT s who (fst + j))).2
  | 0, h, _ => absurd h (by omega)
  | k + 1, hj, hk => by
    have hl := sayN_len s who xs ws fst gs k (by omega)
    by_cases e : j = k
    · subst e
      rw [sayN_succ h, List.getElem?_append_right (by omega), List.getElem?_append_right (by omega), hl]
      rw [show 2 * j - 2 * j = 0 by omega, show 2 * j + 1 - 2 * j = 1 by omega]
      exact ⟨rfl, rfl⟩
    · rw [sayN_succ (List.getElem?_eq_getElem (show k < gs.length by omega)), List.getElem?_append_left (by omega), List.getElem?_append_left (by omega)]
      exact sayN_get h k (by omega) (by omega)
/-! ### what it has of them -/
def clsG (s who : Int) (mine theirs : List Int) (fst : Int) (k : Nat) : Int := clsT who (sumT (gx mine ((2 * k : Nat) : Int), gx mine ((2 * k + 1 : Nat) : Int)) (gx theirs ((2 * k : Nat) : Int), gx theirs ((2 * k + 1 : Nat) : Int))) (halfT s who (fst + k))
def hvN (s who : Int) (mine theirs : List Int) (fst : Int) (gs : List Gt) (S : Nat) : Nat → List Int
  | 0 => List.replicate S 0
  | k + 1 => match gs[k]? with
    | some g => (hvN s who mine theirs fst gs S k).set g.a.toNat (uw (gx (hvN s who mine theirs fst gs S k) g.a + clsG s who mine theirs fst k))
    | none => hvN s who mine theirs fst gs S k
theorem hvN_len (s who : Int) (mine theirs : List Int) (fst : Int) (gs : List Gt) (S : Nat) : ∀ k, (hvN s who mine theirs fst gs S k).length = S
  | 0 => by simp [hvN]
  | k + 1 => by
    have := hvN_len s who mine theirs fst gs S k
    rw [hvN]
    split
    · rw [List.length_set, this]
    · exact this
def sumAt (gs : List Gt) (F : Nat → Int) (p : Int) : Nat → Int
  | 0 => 0
  | k + 1 => match gs[k]? with
    | some g => if g.a = p then sumAt gs F p k + F k else sumAt gs F p k
    | none => sumAt gs F p k
theorem gx_set {l : List Int} {i j : Int} {v : Int} (hi : 0 ≤ i ∧ i < l.length) (hj : 0 ≤ j) : gx (l.set i.toNat v) j = if i = j then v else gx l j := by
  unfold gx
  simp only [List.getD_eq_getElem?_getD, List.getElem?_set]
  by_cases e : i = j
  · subst e
    rw [if_pos rfl, if_pos (by omega), if_pos rfl]; rfl
  · rw [if_neg (by omega), if_neg e]
theorem hvN_get (s who : Int) (mine theirs : List Int) (fst : Int) {gs : List Gt} {S : Nat} (hg : ∀ g ∈ gs, 0 ≤ g.a ∧ g.a < S) {p : Int} (hp : 0 ≤ p ∧ p < S) : ∀ k, gx (hvN s who mine theirs fst gs S k) p = uw (sumAt gs (clsG s who mine theirs fst) p k)
  | 0 => by rw [hvN, sumAt, gx_0, uw_0]
  | k + 1 => by
    have ih := hvN_get s who mine theirs fst hg hp k
    have hl := hvN_len s who mine theirs fst gs S k
    rw [hvN, sumAt]
    cases h : gs[k]? with
    | none => exact ih
    | some g =>
      have hb := hg g (List.mem_of_getElem? h)
      simp only
      rw [gx_set (by omega) hp.1]
      by_cases e : g.a = p
      · rw [if_pos e, if_pos e, e, ih]
        simp only [uw_mod]
        omega
      · rw [if_neg e, if_neg e, ih]
theorem sumAt_add {gs : List Gt} {F G H : Nat → Int} {p : Int} {N : Nat} (h : ∀ k, k < N → uw (F k + G k) = uw (H k)) : ∀ k, k ≤ N → uw (sumAt gs F p k + sumAt gs G p k) = uw (sumAt gs H p k)
  | 0, _ => rfl
  | k + 1, hk => by
    have ih := sumAt_add (gs := gs) (p := p) h k (by omega)
    have h1 := h k (by omega)
    simp only [sumAt]
    cases gs[k]? with
    | none => exact ih
    | some g =>
      simp only
      by_cases e : g.a = p
      · rw [if_pos e, if_pos e, if_pos e]
        simp only [uw_mod] at ih h1 ⊢
        omega
      · rw [if_neg e, if_neg e, if_neg e]
        exact ih
theorem sumAt_eq {gs : List Gt} {F : Nat → Int} {E : Gt → Int} {p : Int} (h : ∀ k g, gs[k]? = some g → F k = E g) : ∀ k, k ≤ gs.length → sumAt gs F p k = (((gs.take k).filter fun g => decide (g.a = p)).map E).sum
  | 0, _ => rfl
  | k + 1, hk => by
    have hg : gs[k]? = some gs[k] := List.getElem?_eq_getElem (by omega)
    rw [sumAt, hg, sumAt_eq h k (by omega), List.take_add_one, hg]
    simp only [Option.toList_some, List.filter_append, List.map_append, List.sum_append]
    by_cases e : gs[k].a = p
    · rw [if_pos e, h k _ hg]
      simp [e]
    · rw [if_neg e]
      simp [e]
theorem gB_filter {n : Nt} {i p : Nat} (hp : p < gS n i) : ((gB n i).filter fun g => decide (g.a = (p : Int))) = gP n i p := by
  unfold gB
  generalize hS : gS n i = S at hp
  clear hS
  have key : ∀ q : Nat, (gP n i q).filter (fun g => decide (g.a = (p : Int))) = if q = p then gP n i p else [] := fun q => by
    by_cases e : q = p
    · subst e
      rw [if_pos rfl, List.filter_eq_self]
      intro g hg
      simpa using (gP_mem hg).2.1
    · rw [if_neg e, List.filter_eq_nil_iff]
      intro g hg
      have := (gP_mem hg).2.1
      simp
      omega
  induction S with
  | zero => omega
  | succ S ih =>
    rw [List.range_succ, List.flatMap_append, List.filter_append]
    simp only [List.flatMap_cons, List.flatMap_nil, List.append_nil]
    rw [key]
    by_cases e : p = S
    · subst e
      rw [if_pos rfl]
      have : ((List.range p).flatMap (gP n i)).filter (fun g => decide (g.a = (p : Int))) = [] := by
        rw [List.filter_eq_nil_iff]
        intro g hg
        obtain ⟨q, hq, hg⟩ := List.mem_flatMap.1 hg
        have := (gP_mem hg).2.1
        have hq2 := List.mem_range.1 hq
        simp
        omega
      rw [this]; rfl
    · rw [if_neg (fun h => e h.symm), ih (by omega), List.append_nil]
end Go.Proofs.YtfnbofkhgimkcaaGreat
