/- Package check: Shapes, Right, Weights, Products, All. -/
import Derived.Test.YtblabchnpkofgaaS7
set_option linter.unusedSimpArgs false
set_option linter.unusedVariables false
namespace Go.Proofs.Ytblabchnpkofgaa
open Go.RowKit Go.Sy
abbrev encSh (s : Sh) : List V := [.i s.c, .i s.h, .i s.w]
def ckS (n : Nt) : List Sh := if ckE n = 0 then n.inp :: (ckL n).map (·.out) else []
def ckW (n : Nt) (i : Int) : Int × Int := if 0 ≤ i ∧ i < (ckL n).length then (sumW ((ckL n).take i.toNat), ((ckL n).map (·.ws)).getD i.toNat 0) else (0, 0)
def ckP (n : Nt) (i : Int) : Int := if 0 ≤ i ∧ i < (ckL n).length then ((ckL n).map (·.ps)).getD i.toNat 0 else 0
theorem ckE_ok {n : Nt} (h : ckE n = 0) : ntForm n = true ∧ shRight n.inp = true ∧ chk n.inp n.ls = some (ckL n) ∧ sumW (ckL n) ≤ 512 ∧ sumP (ckL n) ≤ 512 := by
  have h0 := h
  unfold ckE at h
  split at h
  · rename_i h1
    split at h
    · rename_i h2
      split at h
      · cases h
      · rename_i xs h3
        split at h
        · rename_i h4
          simp only [Bool.and_eq_true, decide_eq_true_eq] at h4
          have h5 : ckL n = xs := by simp [ckL, h0, h3]
          rw [h5]
          exact ⟨h1, h2, h3, h4⟩
        · cases h
    · cases h
  · cases h
theorem chk_nonneg : ∀ {ls : List Ly} {s : Sh} {xs : List Lx}, chk s ls = some xs → shRight s = true → ∀ x ∈ xs, 0 ≤ x.ws ∧ 0 ≤ x.ps
  | [], s, xs, h, hs => by
    simp only [chk, Option.some.injEq] at h
    subst h
    simp
  | a :: ls, s, xs, h, hs => by
    simp only [chk] at h
    split at h
    · rename_i hf
      simp only [Option.map_eq_some_iff] at h
      obtain ⟨ys, h1, rfl⟩ := h
      obtain ⟨h2, h3, h4⟩ := out_bounds hs hf
      intro x hx
      rcases List.mem_cons.1 hx with rfl | hx
      · exact ⟨h3.1, h4.1⟩
      · exact chk_nonneg h1 h2 x hx
    · cases h
theorem sum_take {α : Type} (f : α → Int) : ∀ (xs : List α), (∀ x ∈ xs, 0 ≤ f x) → ∀ i, 0 ≤ ((xs.take i).map f).sum ∧ ((xs.take i).map f).sum ≤ (xs.map f).sum
  | [], _, i => by simp
  | a :: xs, h, i => by
    have h1 := h a (by simp)
    have h2 := fun j => sum_take f xs (fun x hx => h x (List.mem_cons_of_mem _ hx)) j
    cases i with
    | zero =>
      have h3 := h2 0
      simp at h3 ⊢
      omega
    | succ i =>
      have h3 := h2 i
      simp only [List.take_succ_cons, List.map_cons, List.sum_cons]
      omega
theorem ckL_ok (n : Nt) : (ckL n).length ≤ 8 ∧ ∀ i, (0 ≤ sumW ((ckL n).take i) ∧ sumW ((ckL n).take i) ≤ 512) ∧ (0 ≤ sumP ((ckL n).take i) ∧ sumP ((ckL n).take i) ≤ 512) := by
  by_cases h : ckE n = 0
  · obtain ⟨h1, h2, h3, h4, h5⟩ := ckE_ok h
    refine ⟨?_, fun i => ?_⟩
    · rw [chk_len h3]
      exact (ntForm_all h1).1
    · have a1 := sum_take (fun x : Lx => x.ws) (ckL n) (fun x hx => (chk_nonneg h3 h2 x hx).1) i
      have a2 := sum_take (fun x : Lx => x.ps) (ckL n) (fun x hx => (chk_nonneg h3 h2 x hx).2) i
      unfold sumW sumP at *
      omega
  · have : ckL n = [] := by simp [ckL, h]
    rw [this]
    simp [sumW, sumP]
theorem fnCkRight (n : Nt) : Fn1 Try.prog 31 [ntV n] (.b (ckE n == 0)) := by
  refine Fn1.of (rs := [.b _]) (res := [.tmp 2]) Try.call31 Try.func31 rfl Try.ntmps31 rfl (by simp) fun c hc => ?_
  have k1 := fnCkAll n; refine z_go ?_
  with_reducible first | apply Fin.rt | apply Fin.nx
  exact (.cons (.tmp rfl (.of (.of rfl))) .nil)
theorem fnCkProducts (n : Nt) (i : Int) : Fn1 Try.prog 33 [ntV n, .i i] (.i (ckP n i)) := by
  refine Fn1.of (rs := [.i _]) (res := [.tmp 4]) Try.call33 Try.func33 rfl Try.ntmps33 rfl (by simp) fun c hc => ?_
  have k1 := fnCkAll n; refine z_go ?_
  apply Sym.cond
  · rfl
  · intro h
    simp only [Bool.and_eq_true, decide_eq_true_eq] at h
    obtain ⟨j, rfl⟩ : ∃ j : Nat, i = j := ⟨i.toNat, by omega⟩
    obtain ⟨el, hel⟩ : ∃ el, (ckL n)[j]? = some el := ⟨_, List.getElem?_eq_getElem (by omega)⟩
    rw [show ckP n j = el.ps by
      unfold ckP
      rw [if_pos (by omega)]
      simp [hel]]
    refine z_go ?_
    with_reducible first | apply Fin.rt | apply Fin.nx
    exact (.cons (.tmp rfl (.of (.of rfl))) .nil)
  · intro h
    rw [show ckP n i = 0 by
      unfold ckP
      rw [if_neg]
      simp only [Bool.and_eq_false_iff, decide_eq_false_iff_not] at h
      omega]
    refine z_go ?_
    with_reducible first | apply Fin.rt | apply Fin.nx
    exact (.cons (.tmp rfl (.of (.of rfl))) .nil)
theorem fnCkWeights (n : Nt) (i : Int) : Fn1 Try.prog 26 [ntV n, .i i] (.tup [.i (ckW n i).1, .i (ckW n i).2]) := by
  refine Fn1.of (rs := [.i _, .i _]) (res := [.tmp 4, .tmp 5]) Try.call26 Try.func26 rfl Try.ntmps26 rfl (by simp) fun c hc => ?_
  obtain ⟨hl, hsum⟩ := ckL_ok n
  have k1 := fnCkAll n; refine z_go ?_
  refine Sym.loop (fun k s => ∃ j : Nat, j ≤ (ckL n).length ∧ (∀ q : Nat, q < j → i ≠ q) ∧ k = (ckL n).length - j ∧ s = ⟨[(18, true, .p (.i j)), (17, true, .p (.i (ckL n).length)), (16, true, .p (V.list encLx (ckL n))), (6, true, .p (.i (sumW ((ckL n).take j)))), (1, true, .p (.i i))], []⟩) (ckL n).length ⟨_, ⟨0, Nat.zero_le _, by omega, by simp, rfl⟩, ?_⟩ ?_
  · exact z_wkt
  rintro k s ⟨j, hj, hne, rfl, rfl⟩
  refine z_go ?_
  apply Sym.cond
  · rfl
  · intro hlt
    simp only [decide_eq_true_eq] at hlt
    obtain ⟨el, hel⟩ : ∃ el, (ckL n)[j]? = some el := ⟨_, List.getElem?_eq_getElem (by omega)⟩
    have hs2 : sumW ((ckL n).take (j + 1)) = sumW ((ckL n).take j) + el.ws := by rw [List.take_add_one, hel, Option.toList_some, sumW_snoc]
    have b1 := (hsum j).1
    have b2 := (hsum (j + 1)).1
    refine z_go ?_
    apply Sym.cond
    · rfl
    · intro he
      have he : (j : Int) = i := by simpa using he
      rw [show ckW n i = (sumW ((ckL n).take j), el.ws) by
        unfold ckW
        rw [if_pos (by omega), ← he]
        simp [hel]]
      refine z_go ?_
      with_reducible first | apply Fin.rt | apply Fin.nx
      exact .cons (.tmp rfl (.of (.of rfl))) (.cons (.tmp rfl (.of (.of rfl))) .nil)
    · intro he
      have he : ¬ (j : Int) = i := by simpa using he
      refine z_go ?_
      refine ⟨_, ?_, _, ⟨j + 1, by omega, ?_, rfl, rfl⟩, ?_⟩
      · omega
      · intro q hq
        rcases Nat.lt_or_ge q j with h | h
        · exact hne q h
        · obtain rfl : q = j := by omega
          exact fun h => he h.symm
      · rw [hs2]
        exact z_wkt
  · intro hge
    simp only [decide_eq_false_iff_not] at hge
    rw [show ckW n i = (0, 0) by
      unfold ckW
      rw [if_neg]
      intro h
      exact hne i.toNat (by omega) (by omega)]
    refine z_go ?_
    with_reducible first | apply Fin.rt | apply Fin.nx
    exact .cons (.tmp rfl (.of (.of rfl))) (.cons (.tmp rfl (.of (.of rfl))) .nil)
theorem fnCkShapes (n : Nt) : Fn1 Try.prog 24 [ntV n] (.tup [V.list encSh (ckS n), .i (ckE n)]) := by
  refine Fn1.of (rs := [V.list encSh (ckS n), .i _]) (res := [.tmp 2, .tmp 3]) Try.call24 Try.func24 rfl Try.ntmps24 rfl (by simp) fun c hc => ?_
  obtain ⟨hl, hsum⟩ := ckL_ok n
  have k1 := fnCkAll n; refine z_go ?_
  apply Sym.cond
  · rfl
  · intro h
    rw [show ckS n = [] by
      unfold ckS
      rw [if_neg (by simpa using h)]]
    refine z_go ?_
    with_reducible first | apply Fin.rt | apply Fin.nx
    exact .cons (.tmp rfl (.of (.mk rfl z_vle))) (.cons (.tmp rfl (.of (.of rfl))) .nil)
  · intro h
    have h : ckE n = 0 := by simpa using h
    rw [show ckS n = n.inp :: (ckL n).map (·.out) from if_pos h, h]
    have b1 : RowH 19 := .mk; refine z_go ?_
    refine Sym.loop (fun k s => ∃ j : Nat, j ≤ (ckL n).length ∧ k = (ckL n).length - j ∧ s = ⟨[(22, true, .p (.i j)), (21, true, .p (.i (ckL n).length)), (20, true, .p (V.list encLx (ckL n))), (6, true, .row 1 (n.inp :: ((ckL n).take j).map (·.out)).length)], [none, some ⟨D.enc encSh (n.inp :: ((ckL n).take j).map (·.out)), 23, 3⟩]⟩) (ckL n).length ⟨_, ⟨0, Nat.zero_le _, by simp, rfl⟩, ?_⟩ ?_
    · exact z_wkt
    rintro k s ⟨j, hj, rfl, rfl⟩
    refine z_go ?_
    apply Sym.cond
    · rfl
    · intro hlt
      simp only [decide_eq_true_eq] at hlt
      obtain ⟨el, hel⟩ : ∃ el, (ckL n)[j]? = some el := ⟨_, List.getElem?_eq_getElem (by omega)⟩
      have hll : (n.inp :: ((ckL n).take j).map (·.out)).length ≤ 9 := by
        simp
        omega
      have a1 : AppH encSh (n.inp :: ((ckL n).take j).map (·.out)) [el.out] := .mk; refine z_go ?_
      refine ⟨_, ?_, _, ⟨j + 1, by omega, rfl, rfl⟩, ?_⟩
      · omega
      · rw [show n.inp :: ((ckL n).take (j + 1)).map (·.out) = (n.inp :: ((ckL n).take j).map (·.out)) ++ [el.out] by simp [List.take_add_one, hel]]
        exact z_wkt
    · intro hge
      simp only [decide_eq_false_iff_not] at hge
      obtain rfl : j = (ckL n).length := by omega
      rw [List.take_length]
      refine z_go ?_
      with_reducible first | apply Fin.rt | apply Fin.nx
      exact .cons (.tmp rfl (DVr.list encSh _ rfl (fun q => rfl) rfl rfl)) (.cons (.tmp rfl (.of (.of rfl))) .nil)
theorem fnCkSums (n : Nt) : Fn1 Try.prog 28 [ntV n] (.tup [.i (sumW (ckL n)), .i (sumP (ckL n))]) := by
  refine Fn1.of (rs := [.i _, .i _]) (res := [.tmp 2, .tmp 3]) Try.call28 Try.func28 rfl Try.ntmps28 rfl (by simp) fun c hc => ?_
  obtain ⟨hl, hsum⟩ := ckL_ok n
  have k1 := fnCkAll n; refine z_go ?_
  refine Sym.loop (fun k s => ∃ j : Nat, j ≤ (ckL n).length ∧ k = (ckL n).length - j ∧ s = ⟨[(17, true, .p (.i j)), (16, true, .p (.i (ckL n).length)), (15, true, .p (V.list encLx (ckL n))), (5, true, .p (.i (sumP ((ckL n).take j)))), (4, true, .p (.i (sumW ((ckL n).take j))))], []⟩) (ckL n).length ⟨_, ⟨0, Nat.zero_le _, by simp, rfl⟩, ?_⟩ ?_
  · exact z_wkt
  rintro k s ⟨j, hj, rfl, rfl⟩
  refine z_go ?_
  apply Sym.cond
  · rfl
  · intro hlt
    simp only [decide_eq_true_eq] at hlt
    obtain ⟨el, hel⟩ : ∃ el, (ckL n)[j]? = some el := ⟨_, List.getElem?_eq_getElem (by omega)⟩
    have hs2 : sumW ((ckL n).take (j + 1)) = sumW ((ckL n).take j) + el.ws := by rw [List.take_add_one, hel, Option.toList_some, sumW_snoc]
    have hs3 : sumP ((ckL n).take (j + 1)) = sumP ((ckL n).take j) + el.ps := by rw [List.take_add_one, hel, Option.toList_some, sumP_snoc]
    have b1 := hsum j
    have b2 := hsum (j + 1)
    refine z_go ?_
    refine ⟨_, ?_, _, ⟨j + 1, by omega, rfl, rfl⟩, ?_⟩
    · omega
    · rw [hs2, hs3]
      exact z_wkt
  · intro hge
    simp only [decide_eq_false_iff_not] at hge
    obtain rfl : j = (ckL n).length := by omega
    rw [List.take_length]
    refine z_go ?_
    with_reducible first | apply Fin.rt | apply Fin.nx
    exact .cons (.tmp rfl (.of (.of rfl))) (.cons (.tmp rfl (.of (.of rfl))) .nil)
end Go.Proofs.Ytblabchnpkofgaa
