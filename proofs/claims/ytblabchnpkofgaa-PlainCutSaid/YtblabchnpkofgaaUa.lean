/- Layer 7's laws: the walk of PlainCut. -/
import Derived.Test.YtblabchnpkofgaaU8
set_option linter.unusedSimpArgs false
set_option linter.unusedVariables false
namespace Go.Proofs.Ytblabchnpkofgaa
open Go.RowKit Go.Sy
theorem tmX_shift (x : Lx) (a b p : Int) : tmX x (a + b) p = (tmX x b p).map (fun t => if x.l.kind = 2 then t else ⟨t.x, t.w + a⟩) := by
  unfold tmX
  split
  · split
    · rename_i h1
      have h2 : ¬ x.l.kind = 2 := by omega
      simp only [h2, if_false]
      unfold cvT
      split
      · unfold cvRows
        rw [List.map_flatMap]
        congr 1
        funext c
        rw [List.map_map]
        apply List.map_congr_left
        intro j _
        simp only [Function.comp, cvTm, tmAt]
        congr 1
        omega
      · rfl
    · split
      · rename_i h4
        have h2 : ¬ x.l.kind = 2 := by omega
        simp only [h2, if_false]
        unfold dnT
        rw [List.map_map]
        apply List.map_congr_left
        intro j _
        simp only [Function.comp]
        congr 1
        omega
      · split
        · rename_i h2
          simp [h2]
        · rfl
  · rfl
theorem gx_take {w : List Int} {m : Nat} {i : Int} (h : i.toNat < m) : gx (w.take m) i = gx w i := by
  unfold gx
  simp only [List.getD_eq_getElem?_getD, List.getElem?_take]
  rw [if_pos h]
theorem gx_drop {w : List Int} {m : Nat} {i : Int} (h : 0 ≤ i) : gx (w.drop m) i = gx w (i + m) := by
  unfold gx
  simp only [List.getD_eq_getElem?_getD, List.getElem?_drop]
  congr 2
  omega
/-- the rest of a network behind a cut -/
abbrev ntRest (n : Nt) (k : Nat) (s : Sh) : Nt := ⟨s, n.ls.drop k⟩
theorem ck_rest {n : Nt} (h : ckE n = 0) {k : Nat} (hk : k ≤ n.ls.length) {s : Sh} (hs : (ckS n)[k]? = some s) : shRight s = true ∧ ckE (ntRest n k s) = 0 ∧ ckL (ntRest n k s) = (ckL n).drop k := by
  obtain ⟨h0, h1, h2, h3, h4⟩ := ckE_ok h
  obtain ⟨ys, zs, e1, e2, e3, e4⟩ := chk_cut h2 k hk
  have hn := chk_nonneg h2 h1
  obtain ⟨f1, f2, f3⟩ := ntForm_iff.1 h0
  have hcur : lastS n.inp ys = s := by
    have := last_get n.inp ys
    rw [show ckS n = _ from if_pos h, e1, List.map_append, ← List.cons_append, List.getElem?_append_left (by simp; omega), ← e2, this] at hs
    exact Option.some.inj hs
  have hr := (chk_bounds e3 h1).1
  rw [hcur] at hr e4
  obtain ⟨r1, r2, r3, r4⟩ := shRight_iff.1 hr
  have hn2 : ∀ x ∈ zs, 0 ≤ x.ws ∧ 0 ≤ x.ps := fun x hx => hn x (by rw [e1]; simp [hx])
  have hy : ∀ x ∈ ys, 0 ≤ x.ws ∧ 0 ≤ x.ps := fun x hx => hn x (by rw [e1]; simp [hx])
  have hs1 := sum_le ([] : List Lx) ys (by simpa using hy)
  rw [List.nil_append, sumW_nil, sumP_nil] at hs1
  rw [e1, sumW_append] at h3
  rw [e1, sumP_append] at h4
  have hform : ntForm (ntRest n k s) = true := ntForm_iff.2 ⟨by simp; omega, by simp; omega, by
    rw [List.all_eq_true] at f3 ⊢
    intro x hx
    exact f3 x (List.mem_of_mem_drop hx)⟩
  obtain ⟨a1, a2, a3⟩ := ckE_ok' (n := ntRest n k s) (xs := zs) hform hr e4 (by omega) (by omega)
  exact ⟨hr, a1, by rw [a2, e1, ← e2, List.drop_left]⟩
theorem numT_congr {ts ts' : List Tm} {ps xs ws ws' : List Int} (f : Tm → Tm) (ht : ts = ts'.map f) (hg : ∀ t ∈ ts', gT xs ws (f t) = gT xs ws' t) : numT ts ps xs ws = numT ts' ps xs ws' := by
  rw [numT_sum, numT_sum, ht, List.map_map]
  congr 2
  congr 1
  exact List.map_congr_left hg
theorem laT_cut {n : Nt} (h : ckE n = 0) {k : Nat} (hk : k ≤ n.ls.length) {ws : List Int} (hw : (ws.length : Int) = sumW (ckL n)) {W0 : Nat} (hW : sumW ((ckL n).take k) = W0) {j : Nat} (hj : j < k) (ys : List Int) :
    laT (ntCut n k) j ys (ws.take W0) = laT n j ys ws := by
  obtain ⟨a1, a2, a3⟩ := ck_cut h hk
  obtain ⟨l1, l2, l3⟩ := ck_len h
  have hle := sumW_le n k
  have okn : tOk n j = true := tOk_iff.2 ⟨h, by omega, by omega⟩
  have okm : tOk (ntCut n k) j = true := tOk_iff.2 ⟨a1, by omega, by simp; omega⟩
  obtain ⟨j', el, cur, hjj, hE, hel, g1, g2, g3, g4, g5, g6, g7, g8⟩ := tOk_at okn
  obtain rfl : j = j' := by omega
  have m5 : (ckL (ntCut n k))[j]? = some (lxOf cur el) := by rw [a2, List.getElem?_take, if_pos hj, g5]
  have hcw := ((ck_cutW h hk j).1 hj).1
  rw [laT_ok okm m5, laT_ok okn g5]
  have ht : ∀ p, tmT (ntCut n k) j p = tmT n j p := fun p => by rw [tmT_ok okm m5, tmT_ok okn g5, hcw]
  have hp : ∀ p, ptT (ntCut n k) j p = ptT n j p := fun p => by rw [ptT_ok okm m5, ptT_ok okn g5]
  have hlw : ((ws.take W0).length : Int) = sumW (ckL (ntCut n k)) := by
    rw [a2, hW, List.length_take]
    omega
  unfold laX
  by_cases hy : (ys.length : Int) = shSize cur
  · rw [if_pos ⟨hy, hlw⟩, if_pos ⟨hy, hw⟩]
    congr 1
    apply List.map_congr_left
    intro q hq
    have hq : q < (shSize (outOf cur el).1).toNat := by simpa using hq
    have hzb := shSize_b (outOf cur el).1
    rw [← ht, ← hp]
    refine numT_congr id (by rw [List.map_id]) fun t htm => ?_
    obtain ⟨t1, t2, t3⟩ := tm_ok okm g2 g3 g4 m5 g8 (p := (q : Int)) ⟨by omega, by omega⟩
    unfold gT
    simp only [id]
    by_cases hw0 : wOf cur el = 0
    · have := t2 hw0 t htm
      rw [if_pos (by omega), if_pos (by omega)]
    · have := t3 hw0 t htm
      rw [a2, hW] at this
      rw [if_neg (by omega), if_neg (by omega), gx_take (by omega)]
  · rw [if_neg (fun h => hy h.1), if_neg (fun h => hy h.1)]
theorem laT_rest {n : Nt} (h : ckE n = 0) {k : Nat} (hk : k ≤ n.ls.length) {s : Sh} (hs : (ckS n)[k]? = some s) {ws : List Int} (hw : (ws.length : Int) = sumW (ckL n)) {W0 : Nat} (hW : sumW ((ckL n).take k) = W0) {j : Nat} (hj : k + j < n.ls.length) (ys : List Int) :
    laT (ntRest n k s) j ys (ws.drop W0) = laT n ((k + j : Nat) : Int) ys ws := by
  obtain ⟨hr, a1, a2⟩ := ck_rest h hk hs
  obtain ⟨l1, l2, l3⟩ := ck_len h
  have hle := sumW_le n k
  have okn : tOk n ((k + j : Nat) : Int) = true := tOk_iff.2 ⟨h, by omega, by omega⟩
  have okm : tOk (ntRest n k s) j = true := tOk_iff.2 ⟨a1, by omega, by simp; omega⟩
  obtain ⟨j', el, cur, hjj, hE, hel, g1, g2, g3, g4, g5, g6, g7, g8⟩ := tOk_at okn
  obtain rfl : k + j = j' := by omega
  have m5 : (ckL (ntRest n k s))[j]? = some (lxOf cur el) := by rw [a2, List.getElem?_drop, g5]
  have hcw : (ckW n ((k + j : Nat) : Int)).1 = (W0 : Int) + (ckW (ntRest n k s) j).1 := by
    have e1 := (ck_at h hel).1
    rw [e1]
    have hjr : j < (ckL (ntRest n k s)).length := (List.getElem?_eq_some_iff.1 m5).1
    have e2 : (ckW (ntRest n k s) j).1 = sumW ((ckL (ntRest n k s)).take j) := by
      unfold ckW
      rw [if_pos (by omega)]
      simp
    rw [e2, a2, ← hW, ← sumW_append, ← List.take_add]
  rw [laT_ok okm m5, laT_ok okn g5]
  have ht : ∀ p, tmT n ((k + j : Nat) : Int) p = (tmT (ntRest n k s) j p).map (fun t => if el.kind = 2 then t else ⟨t.x, t.w + (W0 : Int)⟩) := fun p => by rw [tmT_ok okm m5, tmT_ok okn g5, hcw, tmX_shift]
  have hp : ∀ p, ptT (ntRest n k s) j p = ptT n ((k + j : Nat) : Int) p := fun p => by rw [ptT_ok okm m5, ptT_ok okn g5]
  have hsum : sumW (ckL n) = sumW ((ckL n).take k) + sumW ((ckL n).drop k) := by rw [← sumW_append, List.take_append_drop]
  have hlw : ((ws.drop W0).length : Int) = sumW (ckL (ntRest n k s)) := by
    rw [a2, List.length_drop]
    omega
  unfold laX
  by_cases hy : (ys.length : Int) = shSize cur
  · rw [if_pos ⟨hy, hlw⟩, if_pos ⟨hy, hw⟩]
    congr 1
    apply List.map_congr_left
    intro q hq
    have hq : q < (shSize (outOf cur el).1).toNat := by simpa using hq
    have hzb := shSize_b (outOf cur el).1
    rw [hp]
    refine (numT_congr _ (ht q) fun t htm => ?_).symm
    obtain ⟨t1, t2, t3⟩ := tm_ok okm g2 g3 g4 m5 g8 (p := (q : Int)) ⟨by omega, by omega⟩
    obtain ⟨w1, w2, w3, w4⟩ := out_pos g2 g3 g4
    by_cases hk2 : el.kind = 2
    · rw [if_pos hk2]
      have := t2 (w1.2 (.inl hk2)) t htm
      unfold gT
      rw [if_pos (by omega), if_pos (by omega)]
    · rw [if_neg hk2]
      by_cases hw0 : wOf cur el = 0
      · exfalso
        have hk3 : el.kind = 3 := by
          have := w1.1 hw0
          omega
        rw [tmT_ok okm m5] at htm
        unfold tmX at htm
        rw [if_pos ⟨by omega, by simp only; omega⟩] at htm
        simp only at htm
        rw [if_neg (by omega), if_neg (by omega), if_neg (by omega)] at htm
        cases htm
      · have := t3 hw0 t htm
        unfold gT
        simp only
        rw [if_neg (by omega), if_neg (by omega), gx_drop (by omega)]
  · rw [if_neg (fun h => hy h.1), if_neg (fun h => hy h.1)]
theorem fold_cut {n : Nt} (h : ckE n = 0) {k : Nat} (hk : k ≤ n.ls.length) {ws : List Int} (hw : (ws.length : Int) = sumW (ckL n)) {W0 : Nat} (hW : sumW ((ckL n).take k) = W0) (xs : List Int) : ∀ j ≤ k, foldF (ntCut n k) xs (ws.take W0) j = foldF n xs ws j
  | 0, _ => rfl
  | j + 1, hj => by rw [foldF_succ, foldF_succ, fold_cut h hk hw hW xs j (by omega), laT_cut h hk hw hW (by omega)]
theorem fold_rest {n : Nt} (h : ckE n = 0) {k : Nat} (hk : k ≤ n.ls.length) {s : Sh} (hs : (ckS n)[k]? = some s) {ws : List Int} (hw : (ws.length : Int) = sumW (ckL n)) {W0 : Nat} (hW : sumW ((ckL n).take k) = W0) (xs : List Int) : ∀ j, k + j ≤ n.ls.length → foldF (ntRest n k s) (foldF n xs ws k) (ws.drop W0) j = foldF n xs ws (k + j)
  | 0, _ => rfl
  | j + 1, hj => by rw [foldF_succ, ← Nat.add_assoc, foldF_succ, fold_rest h hk hs hw hW xs j (by omega), laT_rest h hk hs hw hW (by omega)]
set_option maxHeartbeats 4000000 in
theorem PlainCut_fn (n : Nt) (xs ws : List Int) (a : Int) (ha : 0 ≤ a ∧ a ≤ 255) : Fn1 Try.prog 20 [ntV n, V.list encU xs, V.list encU ws, .x (.int .u8 a)] (.b true) := by
  refine Fn1.of (rs := [.b true]) (res := [.tmp 8]) Try.call20 Try.func20 rfl Try.ntmps20 rfl (by simp) fun c hc => ?_
  have k1 := fnHead7; have k2 := fnGreat7 n [xs, ws] (by simp); have k3 := fnRRight n; refine z_go ?_
  apply Sym.cond
  · rfl
  · intro _
    refine z_go ?_
    with_reducible first | apply Fin.rt | apply Fin.nx
    exact (.cons (.tmp rfl (.of (.of rfl))) .nil)
  · intro h
    simp only [Bool.or_eq_false_iff, Bool.not_eq_false', beq_iff_eq] at h
    obtain ⟨hg, hE⟩ := h
    obtain ⟨h0, hr, _⟩ := ckE_ok hE
    obtain ⟨l1, l2, l3⟩ := ck_len hE
    have hmul := shMul hr
    have hz : shSize n.inp = n.inp.c * n.inp.h * n.inp.w := by simp [shSize, hr]
    have k1 := fnRSums n; refine z_go ?_
    apply Sym.cond
    · rfl
    · intro _
      refine z_go ?_
      with_reducible first | apply Fin.rt | apply Fin.nx
      exact (.cons (.tmp rfl (.of (.of rfl))) .nil)
    · intro h
      have hV : (xs.length : Int) = shSize n.inp ∧ (ws.length : Int) = sumW (ckL n) := by
        simp at h
        omega
      obtain ⟨k, hk, hkl⟩ := modN a n.ls.length ha.1
      have kb : 0 ≤ a % ((n.ls.length : Int) + 1) ∧ a % ((n.ls.length : Int) + 1) ≤ n.ls.length := by omega
      obtain ⟨c1, c2, c3⟩ := ck_cut hE hkl
      obtain ⟨s, hs⟩ : ∃ s, (ckS n)[k]? = some s := ⟨_, List.getElem?_eq_getElem (by omega)⟩
      obtain ⟨r0, r1, r2⟩ := ck_rest hE hkl hs
      obtain ⟨_, hsum⟩ := ckL_ok n
      have hb := hsum k
      have hle := sumW_le n k
      obtain ⟨W0, hW⟩ : ∃ W0 : Nat, sumW ((ckL n).take k) = W0 := ⟨(sumW ((ckL n).take k)).toNat, by omega⟩
      have e1 := fnRSums (ntCut n k)
      rw [c2, hW] at e1
      have hsp : sumW (ckL n) = sumW ((ckL n).take k) + sumW ((ckL n).drop k) := by rw [← sumW_append, List.take_append_drop]
      have kF := fnF n xs ws
      have kM := fnF (ntCut n k) xs (ws.take W0)
      have kC := fnF (ntRest n k s) (foldF n xs ws k) (ws.drop W0)
      have v1 : faT n xs ws = (foldF n xs ws n.ls.length, true) := if_pos ⟨hE, hV⟩
      have v2 : faT (ntCut n k) xs (ws.take W0) = (foldF n xs ws k, true) := by
        unfold faT
        rw [if_pos ⟨c1, hV.1, by rw [c2, hW, List.length_take]; omega⟩]
        rw [show (ntCut n k).ls.length = k by simp; omega, fold_cut hE hkl hV.2 hW xs k (Nat.le_refl k)]
      have v3 : faT (ntRest n k s) (foldF n xs ws k) (ws.drop W0) = (foldF n xs ws n.ls.length, true) := by
        obtain ⟨s', hs', hlen⟩ := foldF_len hE hV.1 hV.2 k hkl
        rw [hs] at hs'
        injection hs' with hs'
        subst hs'
        unfold faT
        rw [if_pos ⟨r1, hlen, by rw [r2, List.length_drop]; omega⟩]
        rw [show (ntRest n k s).ls.length = n.ls.length - k by simp, fold_rest hE hkl hs hV.2 hW xs (n.ls.length - k) (by omega)]
        rw [show k + (n.ls.length - k) = n.ls.length by omega]
      have hlF := faT_len n xs ws
      rw [v1] at kF hlF
      rw [v2] at kM
      rw [v3] at kC
      apply Sym.skip
      apply thenS.nx
      apply Sym.seq
      apply Sym.regionL
      refine z_s1 ?_
      rw [hk]
      have k1 := fnRShapes n; refine z_go ?_
      (apply Sym.drawXL [7, 8] (by kernel_rfl) (by kernel_rfl) (by kernel_rfl))
      refine z_xgo ?_
      have k1 := e1; have k2 := kF; have k3 := kM; have k4 := kC; have k5 := fnSameU (foldF n xs ws n.ls.length) (foldF n xs ws n.ls.length) (by simp only at hlF; omega); refine z_go ?_
      with_reducible first | apply Fin.rt | apply Fin.nx
      refine .cons (.tmp rfl (.of (.of ?_))) .nil
      simp [D.toV]
end Go.Proofs.Ytblabchnpkofgaa
