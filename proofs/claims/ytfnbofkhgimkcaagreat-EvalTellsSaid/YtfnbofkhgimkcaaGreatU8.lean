/- Layer 7's laws: the walks of PlainLinear and PlainWeights. -/
import Derived.Test.YtfnbofkhgimkcaaGreatU7
namespace Go.Proofs.YtfnbofkhgimkcaaGreat
open Go.RowKit Go.Sy
def gT (xs ws : List Int) (t : Tm) : Int := gx xs t.x * (if t.w < 0 then gx xs t.x else gx ws t.w)
theorem uw_add (a b : Int) : uw (uw a + uw b) = uw (a + b) := by
  simp only [uw_mod]
  omega
theorem uw_id (a : Int) : uw (uw a) = uw a := by
  simp only [uw_mod]
  omega
theorem uw_mulL (a b : Int) : uw (uw a * b) = uw (a * b) := by
  rw [← uw_mul (uw a) b, uw_id, uw_mul]
theorem uw_mulR (a b : Int) : uw (a * uw b) = uw (a * b) := by
  rw [← uw_mul a (uw b), uw_id, uw_mul]
theorem fold_sum {α : Type} (f : α → Int) (step : Int → α → Int) (hst : ∀ s a, step s a = uw (s + f a)) : ∀ (l : List α) (s : Int), l.foldl step (uw s) = uw (s + (l.map f).sum)
  | [], s => by simp
  | a :: l, s => by
    rw [List.foldl_cons, hst, show uw (uw s + f a) = uw (s + f a) by simp only [uw_mod]; omega, fold_sum f step hst l (s + f a), List.map_cons, List.sum_cons, Int.add_assoc]
theorem numT_sum (ts : List Tm) (ps : List Int) (xs ws : List Int) : numT ts ps xs ws = uw ((ts.map (gT xs ws)).sum + (ps.map (gx xs)).sum) := by
  unfold numT
  have h1 : ts.foldl (nStep xs ws) 0 = uw (0 + (ts.map (gT xs ws)).sum) := by
    have h := fold_sum (gT xs ws) (nStep xs ws) (fun s t => by
      unfold nStep gT
      simp only [uw_mod]
      omega) ts 0
    rw [uw_0] at h
    exact h
  rw [h1, fold_sum (gx xs) (pStep xs) (fun s t => rfl)]
  simp
theorem sum_add {α : Type} (f g h : α → Int) : ∀ (l : List α), (∀ a ∈ l, uw (f a) = uw (g a + h a)) → uw (l.map f).sum = uw ((l.map g).sum + (l.map h).sum)
  | [], _ => rfl
  | a :: l, hh => by
    have h1 := hh a List.mem_cons_self
    have h2 := sum_add f g h l fun b hb => hh b (List.mem_cons_of_mem _ hb)
    simp only [List.map_cons, List.sum_cons, uw_mod] at h1 h2 ⊢
    omega
theorem sum_scale {α : Type} (c : Int) (f g : α → Int) : ∀ (l : List α), (∀ a ∈ l, uw (f a) = uw (c * g a)) → uw (l.map f).sum = uw (c * (l.map g).sum)
  | [], _ => by simp
  | a :: l, hh => by
    have h1 := hh a List.mem_cons_self
    have h2 := sum_scale c f g l fun b hb => hh b (List.mem_cons_of_mem _ hb)
    simp only [List.map_cons, List.sum_cons, uw_mod, Int.mul_add] at h1 h2 ⊢
    omega
theorem gx_add {x y : List Int} (h : x.length = y.length) (i : Int) : gx (addL x y) i = uw (gx x i + gx y i) := by
  unfold gx addL
  simp only [List.getD_eq_getElem?_getD, List.getElem?_zipWith]
  by_cases hi : i.toNat < x.length
  · rw [List.getElem?_eq_getElem hi, List.getElem?_eq_getElem (show i.toNat < y.length by omega)]
    rfl
  · rw [List.getElem?_eq_none (by omega), List.getElem?_eq_none (by omega)]
    exact uw_0.symm
theorem gx_scale (c : Int) (x : List Int) (i : Int) : gx (scaleL c x) i = uw (c * gx x i) := by
  unfold gx scaleL
  simp only [List.getD_eq_getElem?_getD, List.getElem?_map]
  by_cases hi : i.toNat < x.length
  · rw [List.getElem?_eq_getElem hi]
    rfl
  · rw [List.getElem?_eq_none (by omega)]
    show (0 : Int) = uw (c * 0)
    rw [Int.mul_zero, uw_0]
/-! numbers of sums, and of multiples -/
theorem num_addX {ts : List Tm} (ht : ∀ t ∈ ts, 0 ≤ t.w) (ps : List Int) {x y : List Int} (h : x.length = y.length) (ws : List Int) : numT ts ps (addL x y) ws = uw (numT ts ps x ws + numT ts ps y ws) := by
  rw [numT_sum, numT_sum, numT_sum]
  have h1 := sum_add (gT (addL x y) ws) (gT x ws) (gT y ws) ts fun t htm => by
    have := ht t htm
    unfold gT
    rw [if_neg (by omega), if_neg (by omega), if_neg (by omega), gx_add h, uw_mulL, Int.add_mul]
  have h2 := sum_add (gx (addL x y)) (gx x) (gx y) ps fun v _ => by rw [gx_add h, uw_id]
  simp only [uw_mod] at h1 h2 ⊢
  omega
theorem num_scaleX {ts : List Tm} (ht : ∀ t ∈ ts, 0 ≤ t.w) (ps : List Int) (c : Int) (x : List Int) (ws : List Int) : numT ts ps (scaleL c x) ws = uw (c * numT ts ps x ws) := by
  rw [numT_sum, numT_sum, uw_mulR]
  have h1 := sum_scale c (gT (scaleL c x) ws) (gT x ws) ts fun t htm => by
    have := ht t htm
    unfold gT
    rw [if_neg (by omega), if_neg (by omega), gx_scale, uw_mulL, Int.mul_assoc]
  have h2 := sum_scale c (gx (scaleL c x)) (gx x) ps fun v _ => by rw [gx_scale, uw_id]
  rw [Int.mul_add]
  simp only [uw_mod] at h1 h2 ⊢
  omega
theorem num_addW {ts : List Tm} (ht : ∀ t ∈ ts, 0 ≤ t.w) (xs : List Int) {w v : List Int} (h : w.length = v.length) : numT ts [] xs (addL w v) = uw (numT ts [] xs w + numT ts [] xs v) := by
  rw [numT_sum, numT_sum, numT_sum]
  have h1 := sum_add (gT xs (addL w v)) (gT xs w) (gT xs v) ts fun t htm => by
    have := ht t htm
    unfold gT
    rw [if_neg (by omega), if_neg (by omega), if_neg (by omega), gx_add h, uw_mulR, Int.mul_add]
  simp only [List.map_nil, List.sum_nil, uw_mod] at h1 ⊢
  omega
theorem num_scaleW {ts : List Tm} (ht : ∀ t ∈ ts, 0 ≤ t.w) (xs : List Int) (c : Int) (w : List Int) : numT ts [] xs (scaleL c w) = uw (c * numT ts [] xs w) := by
  rw [numT_sum, numT_sum, uw_mulR]
  have h1 := sum_scale c (gT xs (scaleL c w)) (gT xs w) ts fun t htm => by
    have := ht t htm
    unfold gT
    rw [if_neg (by omega), if_neg (by omega), gx_scale, uw_mulR, Int.mul_left_comm]
  simp only [List.map_nil, List.sum_nil, Int.add_zero]
  exact h1
theorem num_freeW {ts : List Tm} (ht : ∀ t ∈ ts, t.w < 0) (ps xs w v : List Int) : numT ts ps xs w = numT ts ps xs v := by
  rw [numT_sum, numT_sum]
  congr 2
  congr 1
  apply List.map_congr_left
  intro t htm
  have := ht t htm
  unfold gT
  rw [if_pos this, if_pos this]
theorem la_form {n : Nt} {k : Nat} {el : Ly} (hel : n.ls[k]? = some el) : ∃ (ok : Nat → Nat → Bool) (O : Nat), (∀ xs ws, laT n k xs ws = if ok xs.length ws.length then ((List.range O).map fun q : Nat => numT (tmT n k q) (ptT n k q) xs ws, true) else ([], false)) ∧ ∀ q < O, (el.kind ≠ 2 → ∀ t ∈ tmT n k (q : Nat), 0 ≤ t.w) ∧ (el.kind = 2 ∨ el.kind = 3 → ∀ t ∈ tmT n k (q : Nat), t.w < 0) ∧ (el.kind ≠ 3 → ptT n k (q : Nat) = []) := by
  by_cases hok : tOk n k = true
  · obtain ⟨j, el', cur, hj, hE, hel', g1, g2, g3, g4, g5, g6, g7, g8⟩ := tOk_at hok
    obtain rfl : k = j := by omega
    rw [hel] at hel'
    injection hel' with hel'
    subst hel'
    have hz := shSize_b (outOf cur el).1
    obtain ⟨w1, w2, w3, w4⟩ := out_pos g2 g3 g4
    refine ⟨fun a b => decide ((a : Int) = shSize cur ∧ (b : Int) = sumW (ckL n)), (shSize (outOf cur el).1).toNat, fun xs ws => ?_, fun q hq => ?_⟩
    · rw [laT_ok hok g5]
      unfold laX
      simp only [decide_eq_true_eq]
    · obtain ⟨t1, t2, t3⟩ := tm_ok hok g2 g3 g4 g5 g8 (p := (q : Int)) ⟨by omega, by omega⟩
      obtain ⟨p1, p2⟩ := pt_ok hok g2 g3 g5 g8 (q : Int)
      refine ⟨fun hk t ht => ?_, fun hk t ht => ?_, p2⟩
      · by_cases h3 : el.kind = 3
        · rw [tmT_ok hok g5] at ht
          unfold tmX at ht
          rw [if_pos ⟨by omega, by simp only; omega⟩] at ht
          simp only at ht
          rw [if_neg (by omega), if_neg (by omega), if_neg (by omega)] at ht
          cases ht
        · exact (t3 (fun h => by have := w1.1 h; omega) t ht).1
      · rw [t2 (w1.2 hk) t ht]
        omega
  · rw [Bool.not_eq_true] at hok
    exact ⟨fun _ _ => false, 0, fun xs ws => by rw [laT_bad hok]; rfl, fun q hq => absurd hq (Nat.not_lt_zero q)⟩
theorem addL_map (O : Nat) (f g : Nat → Int) : addL ((List.range O).map f) ((List.range O).map g) = (List.range O).map fun q => uw (f q + g q) := by
  unfold addL
  rw [List.zipWith_map_left, List.zipWith_map_right, List.zipWith_self]
theorem la_addX {n : Nt} {k : Nat} {el : Ly} (hel : n.ls[k]? = some el) (hk : el.kind ≠ 2) {x y : List Int} (h : x.length = y.length) (ws : List Int) (c : Int) : (laT n k (addL x y) ws).1 = addL (laT n k x ws).1 (laT n k y ws).1 ∧ (laT n k (scaleL c x) ws).1 = scaleL c (laT n k x ws).1 := by
  obtain ⟨ok, O, h1, h2⟩ := la_form hel
  have hl : (addL x y).length = x.length := by simp [addL, h]
  have hl2 : (scaleL c x).length = x.length := by simp [scaleL]
  rw [h1, h1, h1, h1, hl, hl2, ← h]
  by_cases ho : ok x.length ws.length = true
  · rw [if_pos ho, if_pos ho, if_pos ho, if_pos ho]
    simp only
    rw [addL_map]
    unfold scaleL
    rw [List.map_map]
    constructor
    · apply List.map_congr_left
      intro q hq
      exact num_addX ((h2 q (by simpa using hq)).1 hk) _ h ws
    · apply List.map_congr_left
      intro q hq
      exact num_scaleX ((h2 q (by simpa using hq)).1 hk) _ c x ws
  · rw [if_neg ho, if_neg ho, if_neg ho, if_neg ho]
    exact ⟨rfl, rfl⟩
theorem la_addW {n : Nt} {k : Nat} {el : Ly} (hel : n.ls[k]? = some el) (hk : ¬ (el.kind = 2 ∨ el.kind = 3)) (xs : List Int) {w v : List Int} (h : w.length = v.length) (c : Int) : (laT n k xs (addL w v)).1 = addL (laT n k xs w).1 (laT n k xs v).1 ∧ (laT n k xs (scaleL c w)).1 = scaleL c (laT n k xs w).1 := by
  obtain ⟨ok, O, h1, h2⟩ := la_form hel
  have hl : (addL w v).length = w.length := by simp [addL, h]
  have hl2 : (scaleL c w).length = w.length := by simp [scaleL]
  rw [h1, h1, h1, h1, hl, hl2, ← h]
  by_cases ho : ok xs.length w.length = true
  · rw [if_pos ho, if_pos ho, if_pos ho, if_pos ho]
    simp only
    rw [addL_map]
    unfold scaleL
    rw [List.map_map]
    constructor
    · apply List.map_congr_left
      intro q hq
      obtain ⟨a1, a2, a3⟩ := h2 q (by simpa using hq)
      rw [a3 (by omega)]
      exact num_addW (a1 (by omega)) xs h
    · apply List.map_congr_left
      intro q hq
      obtain ⟨a1, a2, a3⟩ := h2 q (by simpa using hq)
      simp only [Function.comp]
      rw [a3 (by omega)]
      exact num_scaleW (a1 (by omega)) xs c w
  · rw [if_neg ho, if_neg ho, if_neg ho, if_neg ho]
    exact ⟨rfl, rfl⟩
theorem la_freeW {n : Nt} {k : Nat} {el : Ly} (hel : n.ls[k]? = some el) (hk : el.kind = 2 ∨ el.kind = 3) (xs : List Int) {w v : List Int} (h : w.length = v.length) : laT n k xs w = laT n k xs v := by
  obtain ⟨ok, O, h1, h2⟩ := la_form hel
  rw [h1, h1, h]
  split
  · congr 1
    apply List.map_congr_left
    intro q hq
    exact num_freeW ((h2 q (by simpa using hq)).2.1 hk) _ _ _ _
  · rfl
end Go.Proofs.YtfnbofkhgimkcaaGreat
