/- Layer 8, plain laws: the gates of a network, one behind the other. Layer 8, plain laws: stages, and their ranges. Layer 8, plain laws: the statements on gates, without the program. Layer 8: package gates: the iterator over all gates. Layer 8: package gates: the first gate of which something is so. -/
import Derived.Test.YtfnbofkhgimkcaaGreatTC
import Derived.Test.YtfnbofkhgimkcaaGreatDC
namespace Go.Proofs.YtfnbofkhgimkcaaGreat
open Go.RowKit Go.Sy
structure Gt where
  l : Int
  a : Int
  t : Int
  x : Int
  w : Int
  deriving DecidableEq
def gP (n : Nt) (i p : Nat) : List Gt := (tmT n i p).mapIdx fun k t => ⟨i, p, k, t.x, t.w⟩
def gS (n : Nt) (i : Nat) : Nat := (shSize ((ckS n).getD (i + 1) shZ)).toNat
def gB (n : Nt) (i : Nat) : List Gt := (List.range (gS n i)).flatMap (gP n i)
def gA (n : Nt) : List Gt := (List.range ((ckS n).length - 1)).flatMap (gB n)
def gO (n : Nt) (i : Nat) : Nat := ((List.range i).flatMap (gB n)).length
section
variable {α : Type} (f : Nat → List α)
theorem flat_mono {p s : Nat} (h : p ≤ s) : ((List.range p).flatMap f).length ≤ ((List.range s).flatMap f).length := by
  induction s with
  | zero => rw [show p = 0 by omega]; exact Nat.le_refl _
  | succ s ih =>
    by_cases e : p = s + 1
    · rw [e]; exact Nat.le_refl _
    · rw [List.range_succ, List.flatMap_append, List.length_append]
      have := ih (by omega)
      omega
theorem flat_succ (p : Nat) : ((List.range (p + 1)).flatMap f).length = ((List.range p).flatMap f).length + (f p).length := by
  rw [List.range_succ, List.flatMap_append, List.length_append]
  simp
theorem flat_at {p k : Nat} : ∀ s, p < s → k < (f p).length → ((List.range s).flatMap f)[((List.range p).flatMap f).length + k]? = (f p)[k]?
  | 0, h, _ => absurd h (by omega)
  | s + 1, h, hk => by
    rw [List.range_succ, List.flatMap_append]
    by_cases e : p = s
    · subst e
      rw [List.getElem?_append_right (by omega)]
      simp
    · have h1 := flat_mono f (show p + 1 ≤ s by omega)
      rw [flat_succ] at h1
      rw [List.getElem?_append_left (by omega)]
      exact flat_at s (by omega) hk
theorem flat_len {m : Nat} : ∀ s, (∀ p, p < s → (f p).length = m) → ((List.range s).flatMap f).length = s * m
  | 0, _ => by simp
  | s + 1, h => by
    rw [flat_succ, flat_len s (fun p hp => h p (by omega)), h s (by omega), Nat.add_mul, Nat.one_mul]
end
theorem gP_len (n : Nt) (i p : Nat) : (gP n i p).length = (tmT n i p).length := by simp [gP]
theorem gP_get {n : Nt} {i p k : Nat} {t : Tm} (h : (tmT n i p)[k]? = some t) : (gP n i p)[k]? = some ⟨i, p, k, t.x, t.w⟩ := by simp [gP, List.getElem?_mapIdx, h]
theorem gP_mem {n : Nt} {i p : Nat} {g : Gt} (h : g ∈ gP n i p) : g.l = i ∧ g.a = p ∧ 0 ≤ g.t ∧ g.t < (tmT n i p).length := by
  obtain ⟨k, hk, rfl⟩ := List.mem_mapIdx.1 h
  exact ⟨rfl, rfl, by simp only; omega, by simp only; omega⟩
theorem gB_mem {n : Nt} {i : Nat} {g : Gt} (h : g ∈ gB n i) : ∃ p, p < gS n i ∧ g ∈ gP n i p := by
  obtain ⟨p, hp, hg⟩ := List.mem_flatMap.1 h
  exact ⟨p, by simpa using hp, hg⟩
theorem gB_l {n : Nt} {i : Nat} {g : Gt} (h : g ∈ gB n i) : g.l = i := by
  obtain ⟨p, _, hg⟩ := gB_mem h
  exact (gP_mem hg).1
theorem gA_mem {n : Nt} {g : Gt} (h : g ∈ gA n) : ∃ i p, i < (ckS n).length - 1 ∧ p < gS n i ∧ g ∈ gP n i p := by
  obtain ⟨i, hi, hg⟩ := List.mem_flatMap.1 h
  obtain ⟨p, hp, hg⟩ := gB_mem hg
  exact ⟨i, p, by simpa using hi, hp, hg⟩
/-- one gate ahead of another one -/
def klt (a b : Gt) : Prop := a.l < b.l ∨ a.l = b.l ∧ (a.a < b.a ∨ a.a = b.a ∧ a.t < b.t)
theorem gP_sorted (n : Nt) (i p : Nat) : (gP n i p).Pairwise klt := by
  rw [List.pairwise_iff_getElem]
  intro j k hj hk hjk
  simp only [gP, List.getElem_mapIdx]
  exact .inr ⟨rfl, .inr ⟨rfl, by simp only; omega⟩⟩
theorem gB_sorted (n : Nt) (i : Nat) : (gB n i).Pairwise klt := by
  rw [gB, List.pairwise_flatMap]
  refine ⟨fun p _ => gP_sorted n i p, List.pairwise_lt_range.imp fun {p q} hpq x hx y hy => ?_⟩
  obtain ⟨a1, a2, _⟩ := gP_mem hx
  obtain ⟨b1, b2, _⟩ := gP_mem hy
  exact .inr ⟨by rw [a1, b1], .inl (by rw [a2, b2]; omega)⟩
theorem gA_sorted (n : Nt) : (gA n).Pairwise klt := by
  rw [gA, List.pairwise_flatMap]
  refine ⟨fun i _ => gB_sorted n i, List.pairwise_lt_range.imp fun {p q} hpq x hx y hy => ?_⟩
  exact .inl (by rw [gB_l hx, gB_l hy]; omega)
theorem gA_lt {n : Nt} {i j : Nat} {g h : Gt} (hi : (gA n)[i]? = some g) (hj : (gA n)[j]? = some h) (hij : i < j) : klt g h := by
  obtain ⟨hi', rfl⟩ := List.getElem?_eq_some_iff.1 hi
  obtain ⟨hj', rfl⟩ := List.getElem?_eq_some_iff.1 hj
  exact List.pairwise_iff_getElem.1 (gA_sorted n) i j hi' hj' hij
theorem klt_irr {a b : Gt} (h : klt a b) (h1 : a.l = b.l) (h2 : a.a = b.a) (h3 : a.t = b.t) : False := by
  rcases h with h | ⟨_, h | ⟨_, h⟩⟩ <;> omega
theorem klt_asym {a b : Gt} (h : klt a b) : ¬ klt b a := by
  rintro k
  rcases h with h | ⟨h0, h | ⟨h1, h⟩⟩ <;> rcases k with k | ⟨k0, k | ⟨k1, k⟩⟩ <;> omega
/-- a gate is told by its place -/
theorem gA_inj {n : Nt} {i j : Nat} {g h : Gt} (hi : (gA n)[i]? = some g) (hj : (gA n)[j]? = some h) (h1 : g.l = h.l) (h2 : g.a = h.a) (h3 : g.t = h.t) : i = j := by
  rcases Nat.lt_trichotomy i j with k | k | k
  · exact (klt_irr (gA_lt hi hj k) h1 h2 h3).elim
  · exact k
  · exact (klt_irr (gA_lt hj hi k) h1.symm h2.symm h3.symm).elim
/-! ### the first of which something is so -/
def gz : Gt := ⟨0, 0, 0, 0, 0⟩
def fdF (is : Nat → Gt → Bool) : List Gt → Nat → Int × Gt × Bool
  | [], _ => (-1, gz, false)
  | x :: xs, k => if is k x then ((k : Int), x, true) else fdF is xs (k + 1)
theorem fdF_no (is : Nat → Gt → Bool) : ∀ (xs : List Gt) (k : Nat), (∀ j x, xs[j]? = some x → is (k + j) x = false) → fdF is xs k = (-1, gz, false)
  | [], _, _ => rfl
  | x :: xs, k, h => by
    rw [fdF, if_neg (by rw [show is k x = false from h 0 x rfl]; simp)]
    exact fdF_no is xs (k + 1) fun j y hy => by rw [show k + 1 + j = k + (j + 1) by omega]; exact h (j + 1) y hy
theorem fdF_yes (is : Nat → Gt → Bool) : ∀ (xs : List Gt) (k i : Nat) (x : Gt), xs[i]? = some x → is (k + i) x = true → (∀ j y, j < i → xs[j]? = some y → is (k + j) y = false) → fdF is xs k = (((k + i : Nat) : Int), x, true)
  | [], _, _, _, h, _, _ => by simp at h
  | y :: xs, k, 0, x, h, hi, _ => by
    obtain rfl : y = x := by simpa using h
    rw [Nat.add_zero] at hi
    rw [fdF, if_pos hi]; rfl
  | y :: xs, k, i + 1, x, h, hi, hn => by
    rw [fdF, if_neg (by rw [show is k y = false from hn 0 y (by omega) rfl]; simp), fdF_yes is xs (k + 1) i x (by simpa using h) (by rw [show k + 1 + i = k + (i + 1) by omega]; exact hi) fun j z hj hz => by
      rw [show k + 1 + j = k + (j + 1) by omega]; exact hn (j + 1) z (by omega) (by simpa using hz)]
    rw [show k + 1 + i = k + (i + 1) by omega]
/-- what the gate of a number is -/
def gtM (n : Nt) (g : Int) : Gt × Bool := if 0 ≤ g then (match (gA n)[g.toNat]? with | some x => (x, true) | none => (gz, false)) else (gz, false)
theorem gtM_at {n : Nt} {g : Nat} {x : Gt} (h : (gA n)[g]? = some x) : gtM n g = (x, true) := by
  rw [gtM, if_pos (by omega), Int.toNat_natCast, h]
theorem gtM_no {n : Nt} {g : Int} (h : ¬ (0 ≤ g ∧ g < (gA n).length)) : gtM n g = (gz, false) := by
  unfold gtM
  split
  · rw [List.getElem?_eq_none (by omega)]
  · rfl
theorem gtM_fd (n : Nt) (g : Int) : fdF (fun k _ => decide ((k : Int) = g)) (gA n) 0 = (if 0 ≤ g ∧ g < (gA n).length then g else -1, gtM n g) := by
  by_cases h : 0 ≤ g ∧ g < (gA n).length
  · obtain ⟨k, rfl⟩ : ∃ k : Nat, g = k := ⟨g.toNat, by omega⟩
    have hk : (gA n)[k]? = some (gA n)[k] := List.getElem?_eq_getElem (by omega)
    rw [if_pos h, gtM_at hk, fdF_yes _ _ 0 k _ hk (by simp) (fun j y hj _ => by simp; omega)]
    simp
  · rw [if_neg h, gtM_no h, fdF_no]
    intro j x hx
    have := (List.getElem?_eq_some_iff.1 hx).1
    simp
    omega
/-- which gate it is -/
def isG (l a t : Int) (x : Gt) : Bool := decide (x.l = l) && decide (x.a = a) && decide (x.t = t)
theorem isG_iff {l a t : Int} {x : Gt} : isG l a t x = true ↔ x.l = l ∧ x.a = a ∧ x.t = t := by simp [isG, and_assoc]
def ixM (n : Nt) (l a t : Int) : Int := (fdF (fun _ x => isG l a t x) (gA n) 0).1
theorem ixM_at {n : Nt} {g : Nat} {x : Gt} (h : (gA n)[g]? = some x) : ixM n x.l x.a x.t = g := by
  rw [ixM, fdF_yes _ _ 0 g x h (isG_iff.2 ⟨rfl, rfl, rfl⟩)]
  · simp
  · intro j y hj hy
    rw [Bool.eq_false_iff]
    intro hc
    obtain ⟨h1, h2, h3⟩ := isG_iff.1 hc
    have := gA_inj hy h h1 h2 h3
    omega
theorem ixM_no {n : Nt} {l a t : Int} (h : ∀ x ∈ gA n, ¬ (x.l = l ∧ x.a = a ∧ x.t = t)) : ixM n l a t = -1 := by
  rw [ixM, fdF_no]
  intro j x hx
  rw [Bool.eq_false_iff]
  exact fun hc => h x (List.mem_of_getElem? hx) (isG_iff.1 hc)
theorem ixM_inv (n : Nt) (l a t : Int) : ixM n l a t = -1 ∨ ∃ g x, (gA n)[g]? = some x ∧ ixM n l a t = (g : Nat) ∧ x.l = l ∧ x.a = a ∧ x.t = t := by
  by_cases h : ∃ x ∈ gA n, x.l = l ∧ x.a = a ∧ x.t = t
  · obtain ⟨x, hx, h1, h2, h3⟩ := h
    obtain ⟨g, hg⟩ := List.getElem?_of_mem hx
    exact .inr ⟨g, x, hg, by rw [← h1, ← h2, ← h3]; exact ixM_at hg, h1, h2, h3⟩
  · exact .inl (ixM_no fun x hx hc => h ⟨x, hx, hc⟩)
/-! ### a right network's gates -/
theorem gS_at {n : Nt} {i : Nat} {s : Sh} (h : (ckS n)[i + 1]? = some s) : gS n i = (shSize s).toNat := by simp [gS, List.getD, h]
theorem ckSn_len {n : Nt} (h : ckE n = 0) : (ckS n).length = n.ls.length + 1 := (ck_len h).2.1
theorem ckL_len {n : Nt} (h : ckE n = 0) : (ckL n).length = n.ls.length := (ck_len h).1
theorem shSize_pos {s : Sh} (h : shRight s = true) : 1 ≤ shSize s := by
  obtain ⟨h1, h2, h3, h4⟩ := shRight_iff.1 h
  rw [shSize, if_pos h]
  have := Int.mul_pos (Int.mul_pos (show 0 < s.c by omega) (show 0 < s.h by omega)) (show 0 < s.w by omega)
  omega
structure GF (n : Nt) (i : Nat) (m : Nat) : Prop where
  le : m ≤ 2000
  ps : ckP n i = ((m * gS n i : Nat) : Int)
  s1 : 1 ≤ gS n i
  s2 : gS n i ≤ 128
  tl : ∀ p : Nat, p < gS n i → (tmT n i p).length = m
theorem g_form {n : Nt} (h : ckE n = 0) {i : Nat} (hi : i < n.ls.length) : ∃ m, GF n i m := by
  have hok : tOk n i = true := tOk_iff.2 ⟨h, by omega, by omega⟩
  obtain ⟨j, el, cur, hj, hE, hel, g1, g2, g3, g4, g5, g6, g7, g8⟩ := tOk_at hok
  obtain rfl : i = j := by omega
  obtain ⟨v1, v2⟩ := ck_vals g5
  obtain ⟨m, hm, hpo, hwo, hF⟩ := tm_facts g2 g3 g4 (ckW n i).1
  have e := gS_at g6
  have hz := shSize_b (outOf cur el).1
  have h1 : 1 ≤ shSize (outOf cur el).1 := shSize_pos g8
  refine ⟨m, hm, ?_, by omega, by omega, ?_⟩
  · rw [v2, hpo, Int.natCast_mul, e, Int.toNat_of_nonneg hz.1]
  · intro p hp
    obtain ⟨f, hf⟩ := hF p (by omega) (by omega)
    rw [(tmT_ok hok g5 p).trans hf.eq]
    simp
theorem gB_len {n : Nt} {i m : Nat} (h : GF n i m) : (gB n i).length = m * gS n i := by
  rw [gB, flat_len (m := m) _ _ (fun p hp => by rw [gP_len, h.tl p hp]), Nat.mul_comm]
theorem gB_at {n : Nt} {i m p k : Nat} (h : GF n i m) (hp : p < gS n i) (hk : k < m) : (gB n i)[p * m + k]? = (gP n i p)[k]? := by
  have h1 := flat_at (gP n i) (p := p) (k := k) (gS n i) hp (by rw [gP_len, h.tl p hp]; exact hk)
  rw [flat_len (m := m) _ _ (fun q hq => by rw [gP_len, h.tl q (by omega)])] at h1
  exact h1
theorem gA_at {n : Nt} (h : ckE n = 0) {i k : Nat} (hi : i < n.ls.length) (hk : k < (gB n i).length) : (gA n)[gO n i + k]? = (gB n i)[k]? :=
  flat_at (gB n) _ (by rw [ckSn_len h]; omega) hk
theorem gO_succ (n : Nt) (i : Nat) : gO n (i + 1) = gO n i + (gB n i).length := flat_succ (gB n) i
theorem gO_le {n : Nt} (h : ckE n = 0) {i : Nat} (hi : i ≤ n.ls.length) : gO n i ≤ (gA n).length := by
  unfold gO gA
  rw [ckSn_len h]
  exact flat_mono (gB n) (by omega)
theorem gO_all {n : Nt} (h : ckE n = 0) : gO n n.ls.length = (gA n).length := by
  unfold gO gA
  rw [ckSn_len h]; rfl
theorem gO_ps {n : Nt} (h : ckE n = 0) : ∀ i, i ≤ n.ls.length → (gO n i : Int) = sumP ((ckL n).take i)
  | 0, _ => by simp [gO, sumP]
  | i + 1, hi => by
    obtain ⟨m, hm⟩ := g_form h (i := i) (by omega)
    have hl : (ckL n).length = n.ls.length := ckL_len h
    obtain ⟨x, hx⟩ : ∃ x, (ckL n)[i]? = some x := ⟨_, List.getElem?_eq_getElem (by omega)⟩
    have hp : ckP n i = x.ps := by
      unfold ckP
      rw [if_pos (by omega)]
      simp [hx]
    rw [gO_succ, Int.natCast_add, gO_ps h i (by omega), gB_len hm, ← hm.ps, hp, List.take_add_one, hx, sumP_append]
    simp [sumP]
theorem gA_len {n : Nt} (h : ckE n = 0) : ((gA n).length : Int) = sumP (ckL n) := by
  rw [← gO_all h, gO_ps h _ (Nat.le_refl _), ← ckL_len h, List.take_length]
theorem gA_bad {n : Nt} (h : ¬ ckE n = 0) : gA n = [] := by
  rw [gA, (ck_bad h 0).2.1]; rfl
end Go.Proofs.YtfnbofkhgimkcaaGreat
namespace Go.Proofs.YtfnbofkhgimkcaaGreat
open Go.RowKit Go.Sy
def stL (n : Nt) : List Nat := (List.range n.ls.length).filter fun i => decide (ckP n (i : Nat) > 0)
def sumC (n : Nt) (l : List Nat) : Int := (l.map fun i => ckP n (i : Nat)).sum
def rgM (n : Nt) (s : Int) : Int × Int := if 0 ≤ s ∧ s < (stL n).length then (sumC n ((stL n).take s.toNat), ckP n (((stL n).getD s.toNat 0 : Nat) : Int)) else (0, 0)
def shLast (n : Nt) : Sh := (ckS n).getD n.ls.length shZ
def lnM (n : Nt) (s : Int) : Int × Int := if ckE n = 0 ∧ s = (stL n).length then (2 * sumP (ckL n), shSize (shLast n)) else (2 * (rgM n s).1, 2 * (rgM n s).2)
theorem filter_take (q : Nat → Bool) : ∀ (N k i : Nat), ((List.range N).filter q)[k]? = some i → ((List.range N).filter q).take k = (List.range i).filter q
  | 0, k, i, h => by simp at h
  | N + 1, k, i, h => by
    rw [List.range_succ, List.filter_append] at h ⊢
    by_cases hk : k < ((List.range N).filter q).length
    · rw [List.getElem?_append_left hk] at h
      rw [List.take_append_of_le_length (by omega)]
      exact filter_take q N k i h
    · rw [List.getElem?_append_right (by omega)] at h
      cases hq : q N with
      | false => simp [hq] at h
      | true =>
        simp only [List.filter_cons, hq, if_true, List.filter_nil] at h ⊢
        obtain ⟨h1, h2⟩ := List.getElem?_eq_some_iff.1 h
        have h0 : k - ((List.range N).filter q).length = 0 := by
          have : k - ((List.range N).filter q).length < 1 := h1
          omega
        simp only [h0, List.getElem_cons_zero] at h2
        subst h2
        rw [show k = ((List.range N).filter q).length by omega, List.take_left']
        rfl
theorem ckP_nn {n : Nt} (h : ckE n = 0) {i : Nat} (hi : i < n.ls.length) : ckP n i = ((gB n i).length : Nat) := by
  obtain ⟨m, hm⟩ := g_form h hi
  rw [hm.ps, gB_len hm]
theorem ckP_end (n : Nt) {i : Nat} (hi : n.ls.length ≤ i) : ckP n i = 0 := by
  unfold ckP
  rw [if_neg]
  by_cases h : ckE n = 0
  · have := ckL_len h
    omega
  · rw [(ck_bad h 0).1]; simp
theorem sumC_filter {n : Nt} (h : ckE n = 0) : ∀ N, N ≤ n.ls.length → sumC n ((List.range N).filter fun i => decide (ckP n (i : Nat) > 0)) = (gO n N : Nat)
  | 0, _ => by simp [sumC, gO]
  | N + 1, hN => by
    rw [List.range_succ, List.filter_append, gO_succ, Int.natCast_add, ← sumC_filter h N (by omega), ← ckP_nn h (show N < _ by omega)]
    have hc := ckP_nn h (show N < n.ls.length by omega)
    by_cases hp : ckP n (N : Nat) > 0
    · simp [sumC, hp]
    · simp [sumC, hp]
      omega
theorem stL_mem {n : Nt} {k i : Nat} (h : (stL n)[k]? = some i) : i < n.ls.length ∧ 0 < ckP n i := by
  have := List.mem_filter.1 (List.mem_of_getElem? h)
  simpa using this
theorem stL_bad {n : Nt} (h : ¬ ckE n = 0) : stL n = [] := by
  unfold stL
  rw [List.filter_eq_nil_iff]
  intro i _
  rw [(ck_bad h i).2.2.2]
  simp
theorem stL_ok {n : Nt} {k i : Nat} (h : (stL n)[k]? = some i) : ckE n = 0 := by
  by_cases hE : ckE n = 0
  · exact hE
  · rw [stL_bad hE] at h; simp at h
/-- where a stage's gates begin, and how many they are -/
theorem rg_at {n : Nt} {k i : Nat} (h : (stL n)[k]? = some i) : rgM n k = (((gO n i : Nat) : Int), (((gB n i).length : Nat) : Int)) := by
  have hE := stL_ok h
  have hk := (List.getElem?_eq_some_iff.1 h).1
  have h1 : (stL n).take k = (List.range i).filter _ := filter_take _ _ _ _ h
  rw [rgM, if_pos (by omega), Int.toNat_natCast, h1, sumC_filter hE i (by have := (stL_mem h).1; omega)]
  rw [show (stL n).getD k 0 = i by simp [List.getD, h], ckP_nn hE (stL_mem h).1]
theorem rg_no {n : Nt} {s : Int} (h : ¬ (0 ≤ s ∧ s < (stL n).length)) : rgM n s = (0, 0) := if_neg h
theorem stL_sum {n : Nt} (h : ckE n = 0) : sumC n (stL n) = ((gA n).length : Nat) := by
  rw [← gO_all h]
  exact sumC_filter h _ (Nat.le_refl _)
theorem stL_lt {n : Nt} {j k a b : Nat} (hj : (stL n)[j]? = some a) (hk : (stL n)[k]? = some b) (h : j < k) : a < b := by
  obtain ⟨hj', rfl⟩ := List.getElem?_eq_some_iff.1 hj
  obtain ⟨hk', rfl⟩ := List.getElem?_eq_some_iff.1 hk
  exact List.pairwise_iff_getElem.1 (List.Pairwise.filter _ List.pairwise_lt_range) j k hj' hk' h
theorem gA_le (n : Nt) : (gA n).length ≤ 512 := by
  by_cases h : ckE n = 0
  · have h1 := gA_len h
    have h2 := (ckE_ok h).2.2.2.2
    omega
  · rw [gA_bad h]; simp
theorem rg_b (n : Nt) (s : Int) : 0 ≤ (rgM n s).1 ∧ 0 ≤ (rgM n s).2 ∧ (rgM n s).1 + (rgM n s).2 ≤ (gA n).length := by
  by_cases h : 0 ≤ s ∧ s < (stL n).length
  · obtain ⟨k, rfl⟩ : ∃ k : Nat, s = k := ⟨s.toNat, by omega⟩
    obtain ⟨i, hi⟩ : ∃ i, (stL n)[k]? = some i := ⟨_, List.getElem?_eq_getElem (by omega)⟩
    rw [rg_at hi]
    have h2 := gO_le (stL_ok hi) (i := i + 1) (stL_mem hi).1
    rw [gO_succ] at h2
    refine ⟨by simp only; omega, by simp only; omega, by simp only; omega⟩
  · rw [rg_no h]; simp
end Go.Proofs.YtfnbofkhgimkcaaGreat
namespace Go.Proofs.YtfnbofkhgimkcaaGreat
open Go.RowKit Go.Sy
theorem gP_zone {n : Nt} {i p k : Nat} {x : Gt} (h : (gP n i p)[k]? = some x) : x.l = i ∧ x.a = p ∧ x.t = k ∧ ∃ t, (tmT n i p)[k]? = some t ∧ x.x = t.x ∧ x.w = t.w := by
  simp only [gP, List.getElem?_mapIdx, Option.map_eq_some_iff] at h
  obtain ⟨t, ht, rfl⟩ := h
  exact ⟨rfl, rfl, rfl, t, ht, rfl, rfl⟩
/-- a term's gate -/
theorem gt_term {n : Nt} {i p k m : Nat} (hE : ckE n = 0) (hi : i < n.ls.length) (hm : GF n i m) (hp : p < gS n i) {t : Tm} (ht : (tmT n i p)[k]? = some t) :
    (gA n)[gO n i + (p * m + k)]? = some ⟨i, p, k, t.x, t.w⟩ := by
  have hk : k < m := by rw [← hm.tl p hp]; exact (List.getElem?_eq_some_iff.1 ht).1
  have hlt : p * m + k < (gB n i).length := by
    rw [gB_len hm]
    have : (p + 1) * m ≤ gS n i * m := Nat.mul_le_mul_right m hp
    rw [Nat.add_mul, Nat.one_mul, Nat.mul_comm (gS n i)] at this
    omega
  rw [gA_at hE hi hlt, gB_at hm hp hk, gP_get ht]
/-- what GatesTerms says of one term -/
theorem gt_ix {n : Nt} {i p k m : Nat} (hE : ckE n = 0) (hi : i < n.ls.length) (hm : GF n i m) (hp : p < gS n i) {t : Tm} (ht : (tmT n i p)[k]? = some t) :
    ixM n i p k = ((gO n i + (p * m + k) : Nat) : Int) ∧ gtM n (ixM n i p k) = (⟨i, p, k, t.x, t.w⟩, true) := by
  have h := gt_term hE hi hm hp ht
  have h1 := ixM_at h
  simp only at h1
  rw [h1]
  exact ⟨rfl, gtM_at h⟩
theorem gt_ix_no {n : Nt} {i p : Nat} {k : Int} (h : ¬ (0 ≤ k ∧ k < (tmT n i p).length)) : ixM n i p k = -1 := by
  refine ixM_no fun x hx hc => ?_
  obtain ⟨i', p', _, _, hg⟩ := gA_mem hx
  obtain ⟨h1, h2, h3, h4⟩ := gP_mem hg
  obtain ⟨c1, c2, c3⟩ := hc
  obtain rfl : i' = i := by omega
  obtain rfl : p' = p := by omega
  omega
/-- a stage's gates are of one layer -/
theorem gt_layer {n : Nt} {k i : Nat} (h : (stL n)[k]? = some i) {j : Nat} (hj : j < (gB n i).length) : ∃ x, gtM n ((gO n i + j : Nat) : Int) = (x, true) ∧ x.l = i := by
  have hx : (gB n i)[j]? = some (gB n i)[j] := List.getElem?_eq_getElem hj
  have h1 := gA_at (stL_ok h) (stL_mem h).1 hj
  rw [hx] at h1
  exact ⟨_, gtM_at h1, gB_l (List.getElem_mem hj)⟩
/-! ### with layers taken off -/
theorem cut_tm {n : Nt} (h : ckE n = 0) {k : Nat} (hk : k ≤ n.ls.length) {i : Nat} (hi : i < k) (p : Int) : tmT (ntCut n k) i p = tmT n i p := by
  obtain ⟨c1, c2, c3⟩ := ck_cut h hk
  have hl := ckL_len h
  have o1 : tOk n i = true := tOk_iff.2 ⟨h, by omega, by omega⟩
  have o2 : tOk (ntCut n k) i = true := tOk_iff.2 ⟨c1, by omega, by simp [ntCut]; omega⟩
  obtain ⟨x, hx⟩ : ∃ x, (ckL n)[i]? = some x := ⟨_, List.getElem?_eq_getElem (by omega)⟩
  have hx2 : (ckL (ntCut n k))[i]? = some x := by rw [c2, List.getElem?_take_of_lt hi, hx]
  rw [tmT_ok o1 hx, tmT_ok o2 hx2, ((ck_cutW h hk i).1 hi).1]
theorem cut_gS {n : Nt} (h : ckE n = 0) {k : Nat} (hk : k ≤ n.ls.length) {i : Nat} (hi : i < k) : gS (ntCut n k) i = gS n i := by
  obtain ⟨c1, c2, c3⟩ := ck_cut h hk
  simp only [gS, c3, List.getD]
  rw [List.getElem?_take_of_lt (by omega)]
theorem cut_gP {n : Nt} (h : ckE n = 0) {k : Nat} (hk : k ≤ n.ls.length) {i : Nat} (hi : i < k) (p : Nat) : gP (ntCut n k) i p = gP n i p := by
  simp only [gP, cut_tm h hk hi]
theorem cut_gB {n : Nt} (h : ckE n = 0) {k : Nat} (hk : k ≤ n.ls.length) {i : Nat} (hi : i < k) : gB (ntCut n k) i = gB n i := by
  simp only [gB, cut_gS h hk hi]
  congr 1
  funext p
  exact cut_gP h hk hi p
theorem flat_congr {α : Type} {f g : Nat → List α} : ∀ s, (∀ i, i < s → f i = g i) → (List.range s).flatMap f = (List.range s).flatMap g
  | 0, _ => rfl
  | s + 1, h => by
    rw [List.range_succ, List.flatMap_append, List.flatMap_append, flat_congr s (fun i hi => h i (by omega))]
    simp [h s (by omega)]
theorem cut_len {n : Nt} {k : Nat} (hk : k ≤ n.ls.length) : (ntCut n k).ls.length = k := by simp [ntCut]; omega
theorem cut_gA {n : Nt} (h : ckE n = 0) {k : Nat} (hk : k ≤ n.ls.length) : gA (ntCut n k) = (List.range k).flatMap (gB n) := by
  obtain ⟨c1, c2, c3⟩ := ck_cut h hk
  rw [gA, ckSn_len c1, cut_len hk]
  exact flat_congr k fun i hi => cut_gB h hk hi
theorem flat_split {α : Type} (f : Nat → List α) {k s : Nat} (h : k ≤ s) : ∃ r, (List.range s).flatMap f = (List.range k).flatMap f ++ r := by
  induction s with
  | zero => exact ⟨[], by rw [show k = 0 by omega]; rfl⟩
  | succ s ih =>
    by_cases e : k = s + 1
    · exact ⟨[], by rw [e]; simp⟩
    · obtain ⟨r, hr⟩ := ih (by omega)
      exact ⟨r ++ f s, by rw [List.range_succ, List.flatMap_append, hr, List.append_assoc]; simp⟩
theorem cut_get {n : Nt} (h : ckE n = 0) {k : Nat} (hk : k ≤ n.ls.length) {g : Nat} {x : Gt} (hg : (gA (ntCut n k))[g]? = some x) : (gA n)[g]? = some x := by
  rw [cut_gA h hk] at hg
  obtain ⟨r, hr⟩ := flat_split (gB n) hk
  rw [gA, ckSn_len h, show n.ls.length + 1 - 1 = n.ls.length by omega, hr, List.getElem?_append_left (List.getElem?_eq_some_iff.1 hg).1, hg]
theorem cut_gt {n : Nt} (h : ckE n = 0) {k : Nat} (hk : k ≤ n.ls.length) (g : Int) : ((gtM (ntCut n k) g).2 = true → gtM n g = gtM (ntCut n k) g) ∧ ((gtM (ntCut n k) g).2 = true ↔ 0 ≤ g ∧ g < (gA (ntCut n k)).length) ∧ (gA (ntCut n k)).length ≤ (gA n).length := by
  have hle : (gA (ntCut n k)).length ≤ (gA n).length := by
    obtain ⟨r, hr⟩ := flat_split (gB n) hk
    rw [cut_gA h hk, gA, ckSn_len h, show n.ls.length + 1 - 1 = n.ls.length by omega, hr]
    simp
  by_cases hg : 0 ≤ g ∧ g < (gA (ntCut n k)).length
  · obtain ⟨j, rfl⟩ : ∃ j : Nat, g = j := ⟨g.toNat, by omega⟩
    have hx : (gA (ntCut n k))[j]? = some (gA (ntCut n k))[j] := List.getElem?_eq_getElem (by omega)
    rw [gtM_at hx, gtM_at (cut_get h hk hx)]
    exact ⟨fun _ => rfl, ⟨fun _ => hg, fun _ => rfl⟩, hle⟩
  · rw [gtM_no hg]
    exact ⟨fun h => by simp at h, ⟨fun h => by simp at h, fun h => absurd h hg⟩, hle⟩
theorem cut_P {n : Nt} (h : ckE n = 0) {k : Nat} (hk : k ≤ n.ls.length) {i : Nat} (hi : i < k) : ckP (ntCut n k) i = ckP n i := ((ck_cutW h hk i).1 hi).2
theorem cut_stL {n : Nt} (h : ckE n = 0) {k : Nat} (hk : k ≤ n.ls.length) : ∃ r, stL n = stL (ntCut n k) ++ r := by
  have h1 : stL (ntCut n k) = (List.range k).filter fun i => decide (ckP n (i : Nat) > 0) := by
    rw [stL, cut_len hk]
    refine List.filter_congr fun i hi => ?_
    rw [cut_P h hk (by simpa using hi)]
  rw [h1, stL]
  obtain ⟨d, hd⟩ : ∃ d, n.ls.length = k + d := ⟨n.ls.length - k, by omega⟩
  rw [hd, List.range_add, List.filter_append]
  exact ⟨_, rfl⟩
theorem cut_rg {n : Nt} (h : ckE n = 0) {k : Nat} (hk : k ≤ n.ls.length) {j : Nat} (hj : j < (stL (ntCut n k)).length) : rgM (ntCut n k) j = rgM n j := by
  obtain ⟨r, hr⟩ := cut_stL h hk
  obtain ⟨i, hi⟩ : ∃ i, (stL (ntCut n k))[j]? = some i := ⟨_, List.getElem?_eq_getElem hj⟩
  have hi2 : (stL n)[j]? = some i := by rw [hr, List.getElem?_append_left hj, hi]
  have hik := (stL_mem hi).1
  rw [cut_len hk] at hik
  rw [rg_at hi, rg_at hi2, cut_gB h hk hik]
  congr 2
  unfold gO
  rw [flat_congr i fun a ha => cut_gB h hk (by omega)]
/-! ### the order -/
theorem gt_order {n : Nt} {a b : Nat} {x y : Gt} (ha : (gA n)[a]? = some x) (hb : (gA n)[b]? = some y) : klt x y ↔ a < b := by
  constructor
  · intro h
    rcases Nat.lt_trichotomy a b with k | k | k
    · exact k
    · subst k
      rw [ha] at hb
      obtain rfl : x = y := by simpa using hb
      exact (klt_irr h rfl rfl rfl).elim
    · exact (klt_asym h (gA_lt hb ha k)).elim
  · exact gA_lt ha hb
end Go.Proofs.YtfnbofkhgimkcaaGreat
set_option linter.unusedSimpArgs false
set_option linter.unusedVariables false
namespace Go.Proofs.YtfnbofkhgimkcaaGreat
open Go.RowKit Go.Sy
abbrev encGt (g : Gt) : List V := [.i g.l, .i g.a, .i g.t, .i g.x, .i g.w]
abbrev gtV (g : Gt) : V := .agg (encGt g)
abbrev refNt (n : Nt) : V := .ref [.i n.inp.c, .i n.inp.h, .i n.inp.w, V.list encLy n.ls]
def gtVal (k : Nat) (g : Gt) : List Value := [.int .i64 k, .agg #[.int .i64 g.l, .int .i64 g.a, .int .i64 g.t, .int .i64 g.x, .int .i64 g.w]]
theorem gtVal_rep {S : Nat → Prop} {w : World} {k : Nat} {g : Gt} {us : List Value} (h : V.RepL S w [.i k, gtV g] us) : us = gtVal k g := by
  obtain ⟨y, ys, rfl, h1, y2, ys2, rfl, h2, h3⟩ := h
  have h3 : ys2 = [] := h3
  subst h3
  have h1 : y = .int .i64 k := h1
  subst h1
  obtain ⟨us, rfl, u1, r1, rfl, e1, u2, r2, rfl, e2, u3, r3, rfl, e3, u4, r4, rfl, e4, u5, r5, rfl, e5, e6⟩ := h2
  have e1 : u1 = .int .i64 g.l := e1
  have e2 : u2 = .int .i64 g.a := e2
  have e3 : u3 = .int .i64 g.t := e3
  have e4 : u4 = .int .i64 g.x := e4
  have e5 : u5 = .int .i64 g.w := e5
  have e6 : r5 = [] := e6
  subst e1 e2 e3 e4 e5 e6
  rfl
def gQ (n : Nt) (i p : Nat) : Nat := ((List.range p).flatMap (gP n i)).length
theorem gA_small (n : Nt) : (gA n).length ≤ 512 := gA_le n
end Go.Proofs.YtfnbofkhgimkcaaGreat
set_option linter.unusedSimpArgs false
set_option linter.unusedVariables false
namespace Go.Proofs.YtfnbofkhgimkcaaGreat
open Go.RowKit Go.Sy
abbrev ntC (n : Nt) : List V := [.i n.inp.c, .i n.inp.h, .i n.inp.w, V.list encLy n.ls]
abbrev zGt : Box := ⟨[.p (.i 0), .p (.i 0), .p (.i 0), .p (.i 0), .p (.i 0)], 60, 0⟩
abbrev gtBox (g : Gt) : Box := ⟨[.p (.i g.l), .p (.i g.a), .p (.i g.t), .p (.i g.x), .p (.i g.w)], 60, 0⟩
abbrev fdTm : List (Nat × Bool × D) := [(6, true, .ptr 4 0), (5, true, .ptr 3 0), (4, true, .ptr 2 0), (3, true, .ptr 1 0)]
/-- the three blocks of find's results, as boxes -/
theorem find_boxes {W : World} {S : Nat → Prop} (hup : ∀ b, W.heap.size ≤ b → S b) {b4 b5 b6 : Nat} {r : Int} {g : Gt} {b : Bool} (ro : Bool) (dfr : List Deferred)
    (k4 : W.heap[b4]? = some (.cells #[.int .i64 r] 3 (0, 0))) (k5 : W.heap[b5]? = some (.cells #[.int .i64 g.l, .int .i64 g.a, .int .i64 g.t, .int .i64 g.x, .int .i64 g.w] 60 (0, 0))) (k6 : W.heap[b6]? = some (.cells #[.bool b] 4 (0, 0)))
    (s4 : ¬ S b4) (s5 : ¬ S b5) (s6 : ¬ S b6) (n1 : b4 ≠ b5) (n2 : b4 ≠ b6) (n3 : b5 ≠ b6) :
    HSt ⟨W, S, [some (b4, 1), some (b5, 1), some (b6, 1)], ro, [], dfr, noEsc⟩ [some (iBox r), some (gtBox g), some ⟨[.p (.b b)], 4, 0⟩] [some (b4, 1), some (b5, 1), some (b6, 1)] S W := by
  have h1 := (HSt.start hup ro dfr).giveBox (q := 1) (us := [.int .i64 r]) (ds := [.p (.i r)]) k4 s4 (fun i q h => by simp at h) ⟨_, _, rfl, rfl, rfl⟩
  have h2 := h1.giveBox (q := 1) (us := [.int .i64 g.l, .int .i64 g.a, .int .i64 g.t, .int .i64 g.x, .int .i64 g.w]) (ds := [.p (.i g.l), .p (.i g.a), .p (.i g.t), .p (.i g.x), .p (.i g.w)]) k5 s5 (fun i q h => by
    match i, h with
    | 0, h => simp at h; exact n1 h.1
    | i + 1, h => simp at h) ⟨_, _, rfl, rfl, _, _, rfl, rfl, _, _, rfl, rfl, _, _, rfl, rfl, _, _, rfl, rfl, rfl⟩
  exact h2.giveBox (q := 1) (us := [.bool b]) (ds := [.p (.b b)]) k6 s6 (fun i q h => by
    match i, h with
    | 0, h => simp at h; exact n2 h.1
    | 1, h => simp at h; exact n3 h.1
    | i + 2, h => simp at h) ⟨_, _, rfl, rfl, rfl⟩
/-- how find ends -/
theorem find_end {fn : Func} (hrs : fn.results = #[.cell 4 3, .cell 5 60, .cell 6 4]) {a : Act} {w W : World} {S : Nat → Prop} {D b4 b5 b6 : Nat} {r : Int} {g : Gt} {b : Bool} (hup : ∀ b, w.heap.size ≤ b → S b)
    (hd : a.defers = [{ target := .collected D, args := #[] }]) (hn : a.tmps.size = 20) (hD : W.heap[D]? = some (.deferred (some []))) (hwD : w.heap.size ≤ D) (hB : Ext w W)
    (h4 : a.tmps.getD 4 undef = .pointer (some ⟨b4, 0, none⟩)) (h5 : a.tmps.getD 5 undef = .pointer (some ⟨b5, 0, none⟩)) (h6 : a.tmps.getD 6 undef = .pointer (some ⟨b6, 0, none⟩))
    (k4 : W.heap[b4]? = some (.cells #[.int .i64 r] 3 (0, 0))) (k5 : W.heap[b5]? = some (.cells #[.int .i64 g.l, .int .i64 g.a, .int .i64 g.t, .int .i64 g.x, .int .i64 g.w] 60 (0, 0))) (k6 : W.heap[b6]? = some (.cells #[.bool b] 4 (0, 0)))
    (n1 : b4 ≠ b5) (n2 : b4 ≠ b6) (n3 : b5 ≠ b6) :
    LeavesInM Fence.wide 0 Tryz.prog fn a.tmps (fun e w' => ∃ u, e = .returned u ∧ Ext w w' ∧ V.Rep S w' (.tup [.i r, gtV g, .b b]) u) a.defers .returning W := by
  rw [hd]
  refine ⟨by simp, .inl ⟨D, _, rfl, run_takeDeferred hD, ?_⟩⟩
  have hne : ∀ {q : Nat} {cs : Array Value} {e : TypeId}, W.heap[q]? = some (.cells cs e (0, 0)) → (W.putObj D (.deferred none)).heap[q]? = some (.cells cs e (0, 0)) := fun {q cs e} h => by
    rw [World.putObj_heap_other (by rintro rfl; rw [hD] at h; cases h)]
    exact h
  have l4 := (Array.getElem?_eq_some_iff.1 k4).1
  have l5 := (Array.getElem?_eq_some_iff.1 k5).1
  have l6 := (Array.getElem?_eq_some_iff.1 k6).1
  have hH := find_boxes (W := W.putObj D (.deferred none)) (S := fun b => (W.putObj D (.deferred none)).heap.size ≤ b) (fun _ h => h) true a.defers (hne k4) (hne k5) (hne k6) (by simp; omega) (by simp; omega) (by simp; omega) n1 n2 n3
  have hsr : SR ⟨W.putObj D (.deferred none), fun b => (W.putObj D (.deferred none)).heap.size ≤ b, [some (b4, 1), some (b5, 1), some (b6, 1)], true, [], a.defers, noEsc⟩ 20 ⟨[(6, true, .ptr 2 0), (5, true, .ptr 1 0), (4, true, .ptr 0 0)], [some (iBox r), some (gtBox g), some ⟨[.p (.b b)], 4, 0⟩]⟩ a (W.putObj D (.deferred none)) := by
    refine ⟨_, _, hH, rfl, hn, ?_⟩
    intro t g' d' hg
    simp only [TM.get_cons] at hg
    split at hg
    · rename_i e
      subst e
      simp at hg
      obtain ⟨rfl, rfl⟩ := hg
      exact ⟨by rw [hn]; decide, fun _ => ⟨b6, 1, rfl, h6⟩, fun h => by cases h⟩
    · split at hg
      · rename_i e
        subst e
        simp at hg
        obtain ⟨rfl, rfl⟩ := hg
        exact ⟨by rw [hn]; decide, fun _ => ⟨b5, 1, rfl, h5⟩, fun h => by cases h⟩
      · split at hg
        · rename_i e
          subst e
          simp at hg
          obtain ⟨rfl, rfl⟩ := hg
          exact ⟨by rw [hn]; decide, fun _ => ⟨b4, 1, rfl, h4⟩, fun h => by cases h⟩
        · simp [TM.get] at hg
  obtain ⟨u, q1, q2, q3, q4⟩ := fin_run (fn := fn) (P := Tryz.prog) (vs := [.i r, gtV g, .b b]) (m := 3) hrs (.cons (.cell inferInstance rfl rfl rfl rfl (.of (.of rfl))) (.cons (.cellA inferInstance rfl rfl rfl (Nat.le_of_ble_eq_true rfl) (.of (.of rfl))) (.cons (.cell inferInstance rfl rfl rfl rfl (.of (.of rfl))) .nil))) hsr (Nat.le_refl _) (.inl rfl) (fun _ h => h)
  refine ⟨u, q1, u, rfl, ⟨hB.os, hB.tape, hB.output, by rw [World.putObj_size]; exact hB.size, fun b hb => (World.putObj_heap_other (by omega)).trans (hB.block b hb)⟩, ?_⟩
  refine V.Rep.mono (fun _ _ _ => rfl) (fun b hb _ => hup b ?_) q4
  have h1 := hB.size
  have h2 : W.heap.size ≤ b := by simpa using hb
  omega
end Go.Proofs.YtfnbofkhgimkcaaGreat
