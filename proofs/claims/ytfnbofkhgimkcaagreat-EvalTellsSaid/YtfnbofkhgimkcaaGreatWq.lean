/- Layer 13, plain laws: what goes into a stage, what is said there, and what is behind it. -/
import Derived.Test.YtfnbofkhgimkcaaGreatWp
namespace Go.Proofs.YtfnbofkhgimkcaaGreat
open Go.RowKit Go.Sy
/-- a picture through Pools, from a layer on -/
def poolT (n : Nt) (zs : List Int) : Nat → Nat → List Int → List Int
  | 0, _, xs => xs
  | f + 1, i, xs => match n.ls[i]? with
    | some el => if el.kind = 3 then poolT n zs f (i + 1) (laT n i xs zs).1 else xs
    | none => xs
def zW (n : Nt) : List Int := List.replicate (sumW (ckL n)).toNat 0
def plT (n : Nt) (zs : List Int) (i : Nat) (xs : List Int) : List Int := poolT n zs (n.ls.length - i) i xs
theorem zW_len (n : Nt) : ((zW n).length : Int) = sumW (ckL n) := by
  have := (ckL_ok n).2 (ckL n).length
  rw [List.take_length] at this
  simp [zW]
  omega
theorem plT_pool {n : Nt} {i : Nat} {el : Ly} (h : n.ls[i]? = some el) (hk : el.kind = 3) (zs xs : List Int) : plT n zs i xs = plT n zs (i + 1) (laT n i xs zs).1 := by
  have := (List.getElem?_eq_some_iff.1 h).1
  unfold plT
  rw [show n.ls.length - i = (n.ls.length - (i + 1)) + 1 by omega, poolT, h]
  simp only
  rw [if_pos hk]
theorem plT_stop {n : Nt} {i : Nat} (h : ∀ el, n.ls[i]? = some el → el.kind ≠ 3) (zs xs : List Int) : plT n zs i xs = xs := by
  unfold plT
  cases hf : n.ls.length - i with
  | zero => rfl
  | succ f =>
    rw [poolT]
    split
    · rename_i el hel
      rw [if_neg (h el hel)]
    · rfl
/-- the next layer that is no Pool -/
def nx (n : Nt) : Nat → Nat → Nat
  | 0, i => i
  | f + 1, i => match n.ls[i]? with
    | some el => if el.kind = 3 then nx n f (i + 1) else i
    | none => i
theorem plT_ind {n : Nt} {C : Nat → List Int → List Int → Prop} (zs : List Int) (hpool : ∀ i el xs r, n.ls[i]? = some el → el.kind = 3 → C (i + 1) (laT n i xs zs).1 r → C i xs r) (hstop : ∀ i xs, (∀ el, n.ls[i]? = some el → el.kind ≠ 3) → C i xs xs) :
    ∀ (f i : Nat) (xs : List Int), n.ls.length - i = f → C i xs (plT n zs i xs)
  | 0, i, xs, hf => by
    have hno : n.ls[i]? = none := List.getElem?_eq_none (by omega)
    have h : ∀ el, n.ls[i]? = some el → el.kind ≠ 3 := fun el he => by rw [hno] at he; cases he
    rw [plT_stop h]
    exact hstop i xs h
  | f + 1, i, xs, hf => by
    cases hel : n.ls[i]? with
    | none =>
      have h : ∀ el, n.ls[i]? = some el → el.kind ≠ 3 := fun el he => by rw [hel] at he; cases he
      rw [plT_stop h]
      exact hstop i xs h
    | some el =>
      by_cases hk : el.kind = 3
      · rw [plT_pool hel hk]
        exact hpool i el xs _ hel hk (plT_ind zs hpool hstop f (i + 1) _ (by omega))
      · have h : ∀ el', n.ls[i]? = some el' → el'.kind ≠ 3 := fun el' he => by rw [hel] at he; cases he; exact hk
        rw [plT_stop h]
        exact hstop i xs h
theorem plT_free {n : Nt} {zs ws : List Int} (h : zs.length = ws.length) (i : Nat) (xs : List Int) : plT n zs i xs = plT n ws i xs := by
  refine plT_ind (n := n) (C := fun i xs r => r = plT n ws i xs) zs (fun i el xs r hel hk hr => ?_) (fun i xs hs => (plT_stop hs ws xs).symm) _ i xs rfl
  rw [hr, plT_pool hel hk ws, la_freeW hel (.inr hk) xs h]
theorem addL_len {x y : List Int} (h : x.length = y.length) : (addL x y).length = x.length := by simp [addL, h]
theorem plT_add {n : Nt} (zs : List Int) (i : Nat) (x : List Int) : ∀ y : List Int, x.length = y.length → plT n zs i (addL x y) = addL (plT n zs i x) (plT n zs i y) ∧ (plT n zs i x).length = (plT n zs i y).length := by
  refine plT_ind (n := n) (C := fun i x r => ∀ y : List Int, x.length = y.length → plT n zs i (addL x y) = addL r (plT n zs i y) ∧ r.length = (plT n zs i y).length) zs (fun i el x r hel hk hr y hy => ?_) (fun i x hs y hy => ?_) _ i x rfl
  · have h1 := (laT_shape n i x zs y zs hy rfl).2
    obtain ⟨h2, h3⟩ := hr _ h1
    rw [plT_pool hel hk, plT_pool hel hk, (la_addX hel (by omega) hy zs 0).1]
    exact ⟨h2, h3⟩
  · rw [plT_stop hs, plT_stop hs]
    exact ⟨rfl, hy⟩
/-! ### which layer a stage is -/
def lay (n : Nt) (k : Nat) : Nat := (stL n).getD k n.ls.length
def stOk (n : Nt) (s : Int) : Prop := ckE n = 0 ∧ 0 ≤ s ∧ s ≤ (stL n).length
instance (n : Nt) (s : Int) : Decidable (stOk n s) := inferInstanceAs (Decidable (_ ∧ _ ∧ _))
def inT (n : Nt) (s : Int) : Int := if stOk n s then shSize ((ckS n).getD (lay n s.toNat) shZ) else -1
theorem lay_at {n : Nt} {k i : Nat} (h : (stL n)[k]? = some i) : lay n k = i := by simp [lay, List.getD, h]
theorem lay_end (n : Nt) : lay n (stL n).length = n.ls.length := by simp [lay, List.getD]
theorem inT_end {n : Nt} (h : ckE n = 0) : inT n ((stL n).length : Nat) = shSize (shLast n) := by
  rw [inT, if_pos ⟨h, by omega, Int.le_refl _⟩, Int.toNat_natCast, lay_end, shLast]
theorem inT_at {n : Nt} {k i : Nat} (h : (stL n)[k]? = some i) {s : Sh} (hs : (ckS n)[i]? = some s) : inT n k = shSize s := by
  have hk := (List.getElem?_eq_some_iff.1 h).1
  rw [inT, if_pos ⟨stL_ok h, by omega, by omega⟩, Int.toNat_natCast, lay_at h]
  simp [List.getD, hs]
theorem stL_kind {n : Nt} {k i : Nat} (h : (stL n)[k]? = some i) {el : Ly} (he : n.ls[i]? = some el) : el.kind ≠ 3 := by
  intro hk
  have := (ck_at (stL_ok h) he).2.2.2.2.2 hk
  have := (stL_mem h).2
  omega
theorem stL_of {n : Nt} (h : ckE n = 0) {i : Nat} {el : Ly} (he : n.ls[i]? = some el) (hk : el.kind ≠ 3) : ∃ k : Nat, (stL n)[k]? = some i := by
  have h1 := (ck_at h he).2.2.2.2
  obtain ⟨m, hm⟩ := g_form h (List.getElem?_eq_some_iff.1 he).1
  have h2 := hm.ps
  have h3 : ¬ ckP n i = 0 := fun h0 => hk (h1.1 h0)
  refine List.getElem?_of_mem ?_
  unfold stL
  rw [List.mem_filter]
  exact ⟨List.mem_range.2 (List.getElem?_eq_some_iff.1 he).1, by simp; omega⟩
theorem stL_le {n : Nt} {j k a b : Nat} (hj : (stL n)[j]? = some a) (hk : (stL n)[k]? = some b) (h : a < b) : j < k := by
  rcases Nat.lt_trichotomy j k with h1 | h1 | h1
  · exact h1
  · subst h1
    rw [hj] at hk
    injection hk with hk
    omega
  · have := stL_lt hk hj h1
    omega
/-- behind a stage's layer, up to the next one's, all are Pools -/
theorem lay_pools {n : Nt} (h : ckE n = 0) {k j : Nat} (hk : k ≤ (stL n).length) (hj : ∀ q i, q < k → (stL n)[q]? = some i → i < j) : j ≤ lay n k → ∀ i, j ≤ i → i < lay n k → ∀ el, n.ls[i]? = some el → el.kind = 3 := by
  intro _ i h1 h2 el hel
  rcases Classical.em (el.kind = 3) with h3 | h3
  · exact h3
  · exfalso
    obtain ⟨q, hq⟩ := stL_of h hel h3
    by_cases hqk : q < k
    · have := hj q i hqk hq
      omega
    · by_cases hkl : k < (stL n).length
      · obtain ⟨b, hb⟩ : ∃ b, (stL n)[k]? = some b := ⟨_, List.getElem?_eq_getElem hkl⟩
        rw [lay_at hb] at h2
        have := stL_le hq hb h2
        omega
      · have := (List.getElem?_eq_some_iff.1 hq).1
        omega
theorem lay_le (n : Nt) (k : Nat) : lay n k ≤ n.ls.length := by
  by_cases hkl : k < (stL n).length
  · obtain ⟨b, hb⟩ : ∃ b, (stL n)[k]? = some b := ⟨_, List.getElem?_eq_getElem hkl⟩
    rw [lay_at hb]
    have := (stL_mem hb).1
    omega
  · simp [lay, List.getD, List.getElem?_eq_none (show (stL n).length ≤ k by omega)]
theorem lay_lt {n : Nt} {k i : Nat} (h : (stL n)[k]? = some i) : i + 1 ≤ lay n (k + 1) := by
  by_cases hkl : k + 1 < (stL n).length
  · obtain ⟨b, hb⟩ : ∃ b, (stL n)[k + 1]? = some b := ⟨_, List.getElem?_eq_getElem hkl⟩
    rw [lay_at hb]
    exact stL_lt h hb (by omega)
  · rw [show lay n (k + 1) = n.ls.length by simp [lay, List.getD, List.getElem?_eq_none (show (stL n).length ≤ k + 1 by omega)]]
    exact (stL_mem h).1
/-- the layer where Pools end -/
theorem plT_to {n : Nt} (zs : List Int) {m : Nat} (hm : ∀ el, n.ls[m]? = some el → el.kind ≠ 3) (g : Nat → List Int) (hg : ∀ i, i < m → (laT n i (g i) zs).1 = g (i + 1)) : ∀ (f j : Nat), m - j = f → j ≤ m → m ≤ n.ls.length → (∀ i, j ≤ i → i < m → ∀ el, n.ls[i]? = some el → el.kind = 3) → plT n zs j (g j) = g m
  | 0, j, h1, h2, _, _ => by
    obtain rfl : j = m := by omega
    exact plT_stop hm _ _
  | f + 1, j, h1, h2, h3, h4 => by
    obtain ⟨el, hel⟩ : ∃ el, n.ls[j]? = some el := ⟨_, List.getElem?_eq_getElem (by omega)⟩
    rw [plT_pool hel (h4 j (Nat.le_refl _) (by omega) el hel), hg j (by omega)]
    exact plT_to zs hm g hg f (j + 1) (by omega) (by omega) h3 fun i hi hi2 => h4 i (by omega) hi2
theorem lay_no {n : Nt} (k : Nat) : ∀ el, n.ls[lay n k]? = some el → el.kind ≠ 3 := by
  intro el hel
  by_cases hkl : k < (stL n).length
  · obtain ⟨b, hb⟩ : ∃ b, (stL n)[k]? = some b := ⟨_, List.getElem?_eq_getElem hkl⟩
    rw [lay_at hb] at hel
    exact stL_kind hb hel
  · rw [show lay n k = n.ls.length by simp [lay, List.getD, List.getElem?_eq_none (show (stL n).length ≤ k by omega)]] at hel
    simp at hel
/-- what fits a layer fits, behind Pools, the next stage -/
theorem plT_fit {n : Nt} (h : ckE n = 0) {zs : List Int} (hz : (zs.length : Int) = sumW (ckL n)) {m : Nat} (hm : ∀ el, n.ls[m]? = some el → el.kind ≠ 3) : ∀ (f j : Nat), m - j = f → j ≤ m → m ≤ n.ls.length → (∀ i, j ≤ i → i < m → ∀ el, n.ls[i]? = some el → el.kind = 3) → ∀ xs : List Int, (xs.length : Int) = shSize ((ckS n).getD j shZ) → ((plT n zs j xs).length : Int) = shSize ((ckS n).getD m shZ)
  | 0, j, h1, h2, _, _, xs, hx => by
    obtain rfl : j = m := by omega
    rw [plT_stop hm]
    exact hx
  | f + 1, j, h1, h2, h3, h4, xs, hx => by
    have hok : tOk n j = true := tOk_iff.2 ⟨h, by omega, by omega⟩
    obtain ⟨j', el, cur, hjj, _, hel, g1, g2, g3, g4, g5, g6, g7, g8⟩ := tOk_at hok
    obtain rfl : j = j' := by omega
    rw [plT_pool hel (h4 j (Nat.le_refl _) (by omega) el hel)]
    refine plT_fit h hz hm f (j + 1) (by omega) (by omega) h3 (fun i hi hi2 => h4 i (by omega) hi2) _ ?_
    rw [(la_fit hok g5 (by rw [hx]; simp [List.getD, g1]) hz).2]
    simp [List.getD, g6]
/-! ### what is said, and had -/
def sayT (n : Nt) (s who : Int) (i : Nat) (xs ws : List Int) : List Int := sayN s who xs ws (gO n i) (gB n i) (gB n i).length
def rawT (n : Nt) (s who : Int) (i : Nat) (mine theirs : List Int) : List Int := hvN s who mine theirs (gO n i) (gB n i) (gS n i) (gB n i).length
def hvT (n : Nt) (s who : Int) (i : Nat) (mine theirs : List Int) : List Int := plT n (zW n) (i + 1) (rawT n s who i mine theirs)
def firstT (n : Nt) (xs : List Int) : List Int × Bool := if ckE n = 0 ∧ (xs.length : Int) = shSize n.inp then (plT n (zW n) 0 xs, true) else ([], false)
def lineT (n : Nt) (who s st : Int) (xs ws : List Int) : List Int × Bool :=
  if (stOk n st ∧ (xs.length : Int) = inT n st) ∧ (ws.length : Int) = sumW (ckL n) then (if st = (stL n).length then (xs, true) else (sayT n s who (lay n st.toNat) xs ws, true)) else ([], false)
def nextT (n : Nt) (who s st : Int) (mine theirs : List Int) : List Int × Bool :=
  if stOk n st ∧ (mine.length : Int) = (lnM n st).2 ∧ (theirs.length : Int) = (lnM n st).2 then (if st = (stL n).length then (addL mine theirs, true) else (hvT n s who (lay n st.toNat) mine theirs, true)) else ([], false)
theorem sayT_len (n : Nt) (s who : Int) (i : Nat) (xs ws : List Int) : (sayT n s who i xs ws).length = 2 * (gB n i).length := sayN_len _ _ _ _ _ _ _ (Nat.le_refl _)
theorem lnM_at {n : Nt} {k i : Nat} (h : (stL n)[k]? = some i) : lnM n k = (2 * ((gO n i : Nat) : Int), 2 * (((gB n i).length : Nat) : Int)) := by
  have hk := (List.getElem?_eq_some_iff.1 h).1
  rw [lnM, if_neg (by omega), rg_at h]
theorem gB_a {n : Nt} {i : Nat} {g : Gt} (h : g ∈ gB n i) : 0 ≤ g.a ∧ g.a < gS n i := by
  obtain ⟨p, hp, hg⟩ := gB_mem h
  have := (gP_mem hg).2.1
  omega
theorem la_st {n : Nt} (h : ckE n = 0) {i : Nat} {el cur} (hel : n.ls[i]? = some el) (hk : el.kind ≠ 3) (hc : (ckS n)[i]? = some cur) {X W : List Int} (hX : (X.length : Int) = shSize cur) (hW : (W.length : Int) = sumW (ckL n)) :
    laT n i X W = ((List.range (gS n i)).map fun p : Nat => uw ((tmT n i p).map (gT X W)).sum, true) := by
  have hi := (List.getElem?_eq_some_iff.1 hel).1
  have hok : tOk n i = true := tOk_iff.2 ⟨h, by omega, by omega⟩
  obtain ⟨j', el', cur', hjj, _, hel', g1, g2, g3, g4, g5, g6, g7, g8⟩ := tOk_at hok
  obtain rfl : i = j' := by omega
  rw [hc] at g1
  injection g1 with g1
  subst g1
  rw [hel] at hel'
  injection hel' with hel'
  subst hel'
  rw [laT_ok hok g5, show laX n i (lxOf cur el) X W = ((List.range (shSize (outOf cur el).1).toNat).map fun q : Nat => numT (tmT n i q) (ptT n i q) X W, true) from if_pos ⟨hX, hW⟩, gS_at g6]
  congr 1
  refine List.map_congr_left fun q _ => ?_
  rw [numT_sum, (pt_ok hok g2 g3 g5 g8 q).2 hk]
  simp
theorem gx_range {S : Nat} (f : Nat → Int) {p : Nat} (hp : p < S) : gx ((List.range S).map f) p = f p := by
  simp [gx, hp]
theorem list_gx {l m : List Int} (hl : l.length = m.length) (h : ∀ p : Nat, p < l.length → gx l p = gx m p) : l = m := by
  refine List.ext_getElem hl fun p h1 h2 => ?_
  have := h p h1
  simpa [gx, List.getD_eq_getElem?_getD, List.getElem?_eq_getElem h1, List.getElem?_eq_getElem h2] using this
theorem gx_at {l : List Int} {j : Nat} {v : Int} (h : l[j]? = some v) : gx l ((j : Nat) : Int) = v := by
  rw [gx, Int.toNat_natCast, List.getD_eq_getElem?_getD, h]
  rfl
/-- both parties' parts are parts of what the layer makes -/
theorem raw_exact {n : Nt} {k i : Nat} (hk : (stL n)[k]? = some i) {cur : Sh} (hc : (ckS n)[i]? = some cur) (s : Int) {x u w v : List Int} (hx : (x.length : Int) = shSize cur) (hu : u.length = x.length) (hw : (w.length : Int) = sumW (ckL n)) (hv : v.length = w.length) :
    addL (rawT n s 0 i (sayT n s 0 i x w) (sayT n s 1 i u v)) (rawT n s 1 i (sayT n s 1 i u v) (sayT n s 0 i x w)) = (laT n i (addL x u) (addL w v)).1 := by
  obtain ⟨el, hel⟩ : ∃ el, n.ls[i]? = some el := ⟨_, List.getElem?_eq_getElem (stL_mem hk).1⟩
  rw [la_st (stL_ok hk) hel (stL_kind hk hel) hc (X := addL x u) (W := addL w v) (by rw [addL_len hu.symm]; exact hx) (by rw [addL_len hv.symm]; exact hw)]
  have hl0 : ∀ who a b, (rawT n s who i a b).length = gS n i := fun who a b => hvN_len _ _ _ _ _ _ _ _
  refine list_gx (by rw [addL_len (by rw [hl0, hl0]), hl0]; simp) fun p hp => ?_
  rw [addL_len (by rw [hl0, hl0]), hl0] at hp
  rw [gx_add (by rw [hl0, hl0]), gx_range _ hp]
  unfold rawT
  rw [hvN_get _ _ _ _ _ (fun g hg => gB_a hg) (by omega), hvN_get _ _ _ _ _ (fun g hg => gB_a hg) (by omega), uw_add]
  have key := sumAt_add (gs := gB n i) (F := clsG s 0 (sayT n s 0 i x w) (sayT n s 1 i u v) (gO n i)) (G := clsG s 1 (sayT n s 1 i u v) (sayT n s 0 i x w) (gO n i))
    (H := fun k => match (gB n i)[k]? with | some g => gx (addL x u) g.x * gY (addL x u) (addL w v) g | none => 0) (p := p) (N := (gB n i).length) (fun j hj => ?_) _ (Nat.le_refl _)
  · rw [key, sumAt_eq (E := fun g => gx (addL x u) g.x * gY (addL x u) (addL w v) g) (fun j g hg => by simp only [hg]) _ (Nat.le_refl _), List.take_length, gB_filter hp]
    congr 2
    refine List.ext_getElem? fun q => ?_
    rw [List.getElem?_map, List.getElem?_map, gP, List.getElem?_mapIdx]
    cases (tmT n i p)[q]? <;> rfl
  · have hg : (gB n i)[j]? = some (gB n i)[j] := List.getElem?_eq_getElem hj
    simp only [hg]
    generalize (gB n i)[j] = g at hg
    obtain ⟨a1, a2⟩ := sayN_get (s := s) (who := 0) (xs := x) (ws := w) (fst := gO n i) hg _ hj (Nat.le_refl _)
    obtain ⟨b1, b2⟩ := sayN_get (s := s) (who := 1) (xs := u) (ws := v) (fst := gO n i) hg _ hj (Nat.le_refl _)
    unfold clsG sayT
    rw [gx_at a1, gx_at a2, gx_at b1, gx_at b2]
    have hb := beaver s (gO n i + j) (gx x g.x) (gx u g.x) (gY x w g) (gY u v g)
    rw [show ∀ a b : Int, (((opnT a b (halfT s 0 (gO n i + j))).1, (opnT a b (halfT s 0 (gO n i + j))).2)) = opnT a b (halfT s 0 (gO n i + j)) from fun _ _ => rfl, show ∀ a b : Int, (((opnT a b (halfT s 1 (gO n i + j))).1, (opnT a b (halfT s 1 (gO n i + j))).2)) = opnT a b (halfT s 1 (gO n i + j)) from fun _ _ => rfl, hb]
    have e1 := gx_add hu.symm g.x
    have e2 : gY (addL x u) (addL w v) g = uw (gY x w g + gY u v g) := by
      unfold gY
      by_cases hn : g.w < 0
      · rw [if_pos hn, if_pos hn, if_pos hn, e1]
      · rw [if_neg hn, if_neg hn, if_neg hn, gx_add hv.symm]
    rw [e1, e2, uw_mul]
theorem raw_len (n : Nt) (s who : Int) (i : Nat) (a b : List Int) : (rawT n s who i a b).length = gS n i := hvN_len _ _ _ _ _ _ _ _
theorem hv_exact {n : Nt} {k i : Nat} (hk : (stL n)[k]? = some i) (s : Int) {x u w v : List Int} (hx : (x.length : Int) = inT n k) (hu : u.length = x.length) (hw : (w.length : Int) = sumW (ckL n)) (hv : v.length = w.length) :
    addL (hvT n s 0 i (sayT n s 0 i x w) (sayT n s 1 i u v)) (hvT n s 1 i (sayT n s 1 i u v) (sayT n s 0 i x w)) = plT n (addL w v) (i + 1) (laT n i (addL x u) (addL w v)).1 ∧ (hvT n s 0 i (sayT n s 0 i x w) (sayT n s 1 i u v)).length = (hvT n s 1 i (sayT n s 1 i u v) (sayT n s 0 i x w)).length := by
  have hE := stL_ok hk
  obtain ⟨cur, hc⟩ : ∃ cur, (ckS n)[i]? = some cur := ⟨_, List.getElem?_eq_getElem (by rw [ckSn_len hE]; have := (stL_mem hk).1; omega)⟩
  rw [inT_at hk hc] at hx
  obtain ⟨h1, h2⟩ := plT_add (n := n) (zW n) (i + 1) (rawT n s 0 i (sayT n s 0 i x w) (sayT n s 1 i u v)) (rawT n s 1 i (sayT n s 1 i u v) (sayT n s 0 i x w)) (by rw [raw_len, raw_len])
  refine ⟨?_, h2⟩
  unfold hvT
  rw [← h1, raw_exact hk hc s hx hu hw hv]
  refine plT_free ?_ _ _
  have := zW_len n
  rw [addL_len hv.symm]
  omega
theorem hv_fit {n : Nt} {k i : Nat} (hk : (stL n)[k]? = some i) (s who : Int) (a b : List Int) : ((hvT n s who i a b).length : Int) = inT n ((k + 1 : Nat) : Int) := by
  have hE := stL_ok hk
  have hkl := (List.getElem?_eq_some_iff.1 hk).1
  obtain ⟨m, hm⟩ := g_form hE (stL_mem hk).1
  rw [inT, if_pos ⟨hE, by omega, by omega⟩, Int.toNat_natCast]
  refine plT_fit hE (zW_len n) (lay_no (k + 1)) _ (i + 1) rfl (lay_lt hk) (lay_le n _) (lay_pools hE (by omega) (fun q b hq hb => ?_) (lay_lt hk)) _ ?_
  · by_cases e : q = k
    · subst e; rw [hk] at hb; injection hb with hb; omega
    · have := stL_lt hb hk (by omega); omega
  · rw [raw_len]
    have hs1 := hm.s1
    rw [gS] at hs1 ⊢
    have := shSize_b ((ckS n).getD (i + 1) shZ)
    omega
/-- a picture that goes through all layers, at the stages -/
theorem lay_go {n : Nt} {k i : Nat} (hk : (stL n)[k]? = some i) {X W : List Int} (hW : (W.length : Int) = sumW (ckL n)) : plT n W (i + 1) (laT n i (foldF n X W i) W).1 = foldF n X W (lay n (k + 1)) := by
  have hE := stL_ok hk
  have hkl := (List.getElem?_eq_some_iff.1 hk).1
  rw [← foldF_succ]
  refine plT_to W (lay_no (k + 1)) (foldF n X W) (fun j _ => (foldF_succ n X W j).symm) _ (i + 1) rfl (lay_lt hk) (lay_le n _) (lay_pools hE (by omega) (fun q b hq hb => ?_) (lay_lt hk))
  by_cases e : q = k
  · subst e; rw [hk] at hb; injection hb with hb; omega
  · have := stL_lt hb hk (by omega); omega
theorem first_go {n : Nt} (hE : ckE n = 0) {X W : List Int} (hW : (W.length : Int) = sumW (ckL n)) : plT n (zW n) 0 X = foldF n X W (lay n 0) := by
  rw [plT_free (ws := W) (by have := zW_len n; omega)]
  exact plT_to W (lay_no 0) (foldF n X W) (fun j _ => (foldF_succ n X W j).symm) _ 0 rfl (Nat.zero_le _) (lay_le n _) (lay_pools hE (Nat.zero_le _) (fun q b hq hb => by omega) (Nat.zero_le _))
theorem first_fit {n : Nt} (hE : ckE n = 0) {X : List Int} (hX : (X.length : Int) = shSize n.inp) : ((plT n (zW n) 0 X).length : Int) = inT n 0 := by
  rw [inT, if_pos ⟨hE, by omega, by omega⟩]
  refine plT_fit hE (zW_len n) (lay_no 0) _ 0 rfl (Nat.zero_le _) (lay_le n _) (lay_pools hE (Nat.zero_le _) (fun q b hq hb => by omega) (Nat.zero_le _)) X ?_
  rw [hX, show ckS n = _ from if_pos hE]
  rfl
end Go.Proofs.YtfnbofkhgimkcaaGreat
