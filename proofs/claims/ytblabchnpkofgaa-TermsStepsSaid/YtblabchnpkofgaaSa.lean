/- Layer 05's own answer: Products, Weights, All. -/
import Derived.Test.YtblabchnpkofgaaS9
set_option linter.unusedSimpArgs false
set_option linter.unusedVariables false
namespace Go.Proofs.Ytblabchnpkofgaa
open Go.RowKit Go.Sy
theorem chk_get : ∀ {ls : List Ly} {s : Sh} {xs : List Lx} {i : Nat} {el : Ly}, chk s ls = some xs → ls[i]? = some el → ∃ cur, (s :: xs.map (·.out))[i]? = some cur ∧ xs[i]? = some (lxOf cur el) ∧ (s :: xs.map (·.out))[i + 1]? = some (outOf cur el).1
  | [], _, _, _, _, _, h => by simp at h
  | a :: ls, s, xs, i, el, h, he => by
    simp only [chk] at h
    split at h
    · simp only [Option.map_eq_some_iff] at h
      obtain ⟨ys, h1, rfl⟩ := h
      cases i with
      | zero =>
        simp only [List.getElem?_cons_zero, Option.some.injEq] at he
        subst he
        exact ⟨s, rfl, rfl, rfl⟩
      | succ i =>
        simp only [List.getElem?_cons_succ] at he
        obtain ⟨cur, h2, h3, h4⟩ := chk_get h1 he
        exact ⟨cur, h2, h3, h4⟩
    · cases h
theorem ck_get {n : Nt} {i : Nat} {el : Ly} (h : ckE n = 0) (he : n.ls[i]? = some el) : ∃ cur, (ckS n)[i]? = some cur ∧ (ckL n)[i]? = some (lxOf cur el) ∧ (ckS n)[i + 1]? = some (outOf cur el).1 := by
  obtain ⟨_, _, h1, _⟩ := ckE_ok h
  rw [show ckS n = n.inp :: (ckL n).map (·.out) from if_pos h]
  exact chk_get h1 he
theorem ck_len {n : Nt} (h : ckE n = 0) : (ckL n).length = n.ls.length ∧ (ckS n).length = n.ls.length + 1 ∧ n.ls.length ≤ 8 := by
  obtain ⟨h0, _, h1, _⟩ := ckE_ok h
  have h2 := chk_len h1
  rw [show ckS n = n.inp :: (ckL n).map (·.out) from if_pos h]
  simp [h2, (ntForm_all h0).1]
theorem ckW_0 {n : Nt} {i : Int} (h : (ckE n != 0 || decide (i < 0) || decide (i ≥ (n.ls.length : Int))) = true) : ckW n i = (0, 0) ∧ ckP n i = 0 := by
  have : ¬ (0 ≤ i ∧ i < (ckL n).length) := by
    intro ⟨h1, h2⟩
    by_cases h3 : ckE n = 0
    · have := (ck_len h3).1
      simp only [h3, Bool.or_eq_true, decide_eq_true_eq] at h
      rcases h with (h | h) | h
      · simp at h
      · omega
      · omega
    · have : ckL n = [] := by simp [ckL, h3]
      rw [this] at h2
      simp at h2
      omega
  exact ⟨if_neg this, if_neg this⟩
theorem fnRProducts (n : Nt) (i : Int) : Fn1 Try.prog 34 [ntV n, .i i] (.i (ckP n i)) := by
  refine Fn1.of (rs := [.i _]) (res := [.tmp 4]) Try.call34 Try.func34 rfl Try.ntmps34 rfl (by simp) fun c hc => ?_
  have k1 := fnRShapes n; refine z_go ?_
  apply Sym.cond
  · rfl
  · intro h
    rw [(ckW_0 h).2]
    refine z_go ?_
    with_reducible first | apply Fin.rt | apply Fin.nx
    exact (.cons (.tmp rfl (.of (.of rfl))) .nil)
  · intro h
    simp only [Bool.or_eq_false_iff, bne_eq_false_iff_eq, decide_eq_false_iff_not] at h
    obtain ⟨⟨h1, h2⟩, h3⟩ := h
    obtain ⟨j, rfl⟩ : ∃ j : Nat, i = j := ⟨i.toNat, by omega⟩
    obtain ⟨el, hel⟩ : ∃ el, n.ls[j]? = some el := ⟨_, List.getElem?_eq_getElem (by omega)⟩
    obtain ⟨cur, g1, g2, g3⟩ := ck_get h1 hel
    obtain ⟨l1, l2, l3⟩ := ck_len h1
    rw [show ckP n j = pOf cur (outOf cur el).1 el by
      unfold ckP
      rw [if_pos (by omega)]
      simp [g2]]
    have g4 : (ckS n)[((j : Int) + 1).toNat]? = some (outOf cur el).1 := g3
    have k1 := fnRP cur (outOf cur el).1 el; refine z_go ?_
    with_reducible first | apply Fin.rt | apply Fin.nx
    exact (.cons (.tmp rfl (.of (.of rfl))) .nil)
theorem fnRWeights (n : Nt) (i : Int) : Fn1 Try.prog 27 [ntV n, .i i] (.tup [.i (ckW n i).1, .i (ckW n i).2]) := by
  refine Fn1.of (rs := [.i _, .i _]) (res := [.tmp 4, .tmp 5]) Try.call27 Try.func27 rfl Try.ntmps27 rfl (by simp) fun c hc => ?_
  obtain ⟨_, hsum⟩ := ckL_ok n
  have k1 := fnRShapes n; refine z_go ?_
  apply Sym.cond
  · rfl
  · intro h
    rw [(ckW_0 h).1]
    refine z_go ?_
    with_reducible first | apply Fin.rt | apply Fin.nx
    exact .cons (.tmp rfl (.of (.of rfl))) (.cons (.tmp rfl (.of (.of rfl))) .nil)
  · intro h
    simp only [Bool.or_eq_false_iff, bne_eq_false_iff_eq, decide_eq_false_iff_not] at h
    obtain ⟨⟨h1, h2⟩, h3⟩ := h
    obtain ⟨j, rfl⟩ : ∃ j : Nat, i = j := ⟨i.toNat, by omega⟩
    obtain ⟨el, hel⟩ : ∃ el, n.ls[j]? = some el := ⟨_, List.getElem?_eq_getElem (by omega)⟩
    obtain ⟨cur, g1, g2, g3⟩ := ck_get h1 hel
    obtain ⟨l1, l2, l3⟩ := ck_len h1
    rw [show ckW n j = (sumW ((ckL n).take j), wOf cur el) by
      unfold ckW
      rw [if_pos (by omega)]
      simp [g2]]
    refine z_go ?_
    refine Sym.loop (fun k s => ∃ q : Nat, q ≤ j ∧ k = j - q ∧ s = ⟨[(9, true, .p (.i q)), (8, true, .p (.i (sumW ((ckL n).take q)))), (6, true, .p (V.list encSh (ckS n))), (2, true, .ptr 0 0), (1, true, .p (.i j))], [some (ntBox n)]⟩) j ⟨_, ⟨0, Nat.zero_le _, by simp, rfl⟩, z_wkt⟩ ?_
    rintro k s ⟨q, hq, rfl, rfl⟩
    refine z_go ?_
    apply Sym.cond
    · rfl
    · intro hlt
      simp only [decide_eq_true_eq] at hlt
      obtain ⟨el', hel'⟩ : ∃ el, n.ls[q]? = some el := ⟨_, List.getElem?_eq_getElem (by omega)⟩
      obtain ⟨cur', f1, f2, f3⟩ := ck_get h1 hel'
      have hs2 : sumW ((ckL n).take (q + 1)) = sumW ((ckL n).take q) + wOf cur' el' := by rw [List.take_add_one, f2, Option.toList_some, sumW_snoc]
      have b1 := (hsum q).1
      have b2 := (hsum (q + 1)).1
      have k1 := fnRW cur' el'; refine z_go ?_
      refine ⟨_, ?_, _, ⟨q + 1, by omega, rfl, rfl⟩, ?_⟩
      · omega
      · rw [hs2]
        exact z_wkt
    · intro hge
      simp only [decide_eq_false_iff_not] at hge
      obtain rfl : q = j := by omega
      have k1 := fnRW cur el; refine z_go ?_
      with_reducible first | apply Fin.rt | apply Fin.nx
      exact .cons (.tmp rfl (.of (.of rfl))) (.cons (.tmp rfl (.of (.of rfl))) .nil)
theorem ck_step (n : Nt) (q : Nat) : sumW ((ckL n).take (q + 1)) = sumW ((ckL n).take q) + (ckW n q).2 ∧ sumP ((ckL n).take (q + 1)) = sumP ((ckL n).take q) + ckP n q := by
  by_cases h : q < (ckL n).length
  · obtain ⟨el, hel⟩ : ∃ el, (ckL n)[q]? = some el := ⟨_, List.getElem?_eq_getElem h⟩
    unfold ckW ckP
    rw [if_pos (by omega), if_pos (by omega), List.take_add_one, hel, Option.toList_some, sumW_snoc, sumP_snoc]
    simp [hel]
  · unfold ckW ckP
    rw [if_neg (by omega), if_neg (by omega), List.take_of_length_le (by omega), List.take_of_length_le (by omega)]
    simp
theorem ckL_le (n : Nt) : (ckL n).length ≤ n.ls.length := by
  by_cases h : ckE n = 0
  · have := (ck_len h).1
    omega
  · simp [ckL, h]
theorem fnRSums (n : Nt) : Fn1 Try.prog 29 [ntV n] (.tup [.i (sumW (ckL n)), .i (sumP (ckL n))]) := by
  refine Fn1.of (rs := [.i _, .i _]) (res := [.tmp 2, .tmp 3]) Try.call29 Try.func29 rfl Try.ntmps29 rfl (by simp) fun c hc => ?_
  obtain ⟨hl8, hsum⟩ := ckL_ok n
  have hle := ckL_le n
  refine z_go ?_
  refine Sym.loop (fun k s => ∃ q : Nat, q ≤ 9 ∧ k = 9 - q ∧ s = ⟨[(6, true, .p (.i q)), (5, true, .p (.i (sumP ((ckL n).take q)))), (4, true, .p (.i (sumW ((ckL n).take q)))), (1, true, .ptr 0 0)], [some (ntBox n)]⟩) 9 ⟨_, ⟨0, by omega, by simp, rfl⟩, z_wkt⟩ ?_
  rintro k s ⟨q, hq, rfl, rfl⟩
  refine z_go ?_
  apply Sym.cond
  · rfl
  · intro hlt
    simp only [Bool.and_eq_true, decide_eq_true_eq] at hlt
    obtain ⟨s1, s2⟩ := ck_step n q
    have b1 := hsum q
    have b2 := hsum (q + 1)
    have k1 := fnRWeights n q; have k2 := fnRProducts n q; refine z_go ?_
    refine ⟨_, ?_, _, ⟨q + 1, by omega, rfl, rfl⟩, ?_⟩
    · omega
    · rw [s1, s2]
      exact z_wkt
  · intro hge
    have hge : (ckL n).length ≤ q := by
      simp only [Bool.and_eq_false_iff, decide_eq_false_iff_not] at hge
      omega
    rw [List.take_of_length_le hge]
    refine z_go ?_
    with_reducible first | apply Fin.rt | apply Fin.nx
    exact .cons (.tmp rfl (.of (.of rfl))) (.cons (.tmp rfl (.of (.of rfl))) .nil)
end Go.Proofs.Ytblabchnpkofgaa
