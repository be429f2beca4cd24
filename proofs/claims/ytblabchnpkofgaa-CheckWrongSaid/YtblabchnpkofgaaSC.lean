/- Layer 05's own answer: Shapes and what stands on it. Layer 05's own answer: Products, Weights, All. Layer 05's laws: their head, and what is too great. What is too great; the first law of layer 05. Layer 05: what a network's parts make of the whole (plain laws). -/
import Derived.Test.YtblabchnpkofgaaSB
set_option linter.unusedSimpArgs false
set_option linter.unusedVariables false
namespace Go.Proofs.Ytblabchnpkofgaa
open Go.RowKit Go.Sy
theorem last_get : ∀ (s : Sh) (xs : List Lx), (s :: xs.map (·.out))[xs.length]? = some (lastS s xs)
  | _, [] => rfl
  | _, x :: xs => by
    have := last_get x.out xs
    simpa [lastS] using this
theorem fnRShapes (n : Nt) : Fn1 Try.prog 25 [ntV n] (.tup [V.list encSh (ckS n), .i (ckE n)]) := by
  refine Fn1.of (rs := [V.list encSh (ckS n), .i _]) (res := [.tmp 2, .tmp 3]) Try.call25 Try.func25 rfl Try.ntmps25 rfl (by simp) fun c hc => ?_
  have k1 := fnRForm n; refine z_go ?_
  apply Sym.cond
  · rfl
  · intro h
    have hf : ntForm n = false := by simpa using h
    have hE : ckE n = 12 := by simp [ckE, hf]
    have hL : ckS n = [] := by simp [ckS, hE]
    rw [hE, hL]
    refine z_go ?_
    with_reducible first | apply Fin.rt | apply Fin.nx
    exact .cons (.tmp rfl (.of (.mk rfl z_vle))) (.cons (.tmp rfl (.of (.of rfl))) .nil)
  · intro h
    have hf : ntForm n = true := by simpa using h
    have k1 := fnRShRight n.inp; refine z_go ?_
    apply Sym.cond
    · rfl
    · intro h
      have hs : shRight n.inp = false := by simpa using h
      have hE : ckE n = 1 := by simp [ckE, hf, hs]
      have hL : ckS n = [] := by simp [ckS, hE]
      rw [hE, hL]
      refine z_go ?_
      with_reducible first | apply Fin.rt | apply Fin.nx
      exact .cons (.tmp rfl (.of (.mk rfl z_vle))) (.cons (.tmp rfl (.of (.of rfl))) .nil)
    · intro h
      have hs : shRight n.inp = true := by simpa using h
      have hl : n.ls.length ≤ 8 ∧ n.ls.all lyForm = true := ntForm_all hf
      have b1 : RowH 19 := .mk; refine z_go ?_
      refine Sym.loop (fun k s => ∃ (i : Nat) (xs : List Lx), i ≤ n.ls.length ∧ chk n.inp (n.ls.take i) = some xs ∧ k = n.ls.length - i ∧ s = ⟨[(7, true, .p (.i i)), (6, true, .p (.i (sumP xs))), (5, true, .p (.i (sumW xs))), (4, true, .row 1 (n.inp :: xs.map (·.out)).length), (1, true, .ptr 0 0)], [some (ntBox n), some ⟨D.enc encSh (n.inp :: xs.map (·.out)), 23, 3⟩]⟩) n.ls.length ⟨_, ⟨0, [], Nat.zero_le _, rfl, by simp, rfl⟩, ?_⟩ ?_
      · exact z_wkt
      rintro k s ⟨i, xs, hi, hxs, rfl, rfl⟩
      refine z_go ?_
      apply Sym.cond
      · rfl
      · intro hlt
        simp only [decide_eq_true_eq] at hlt
        obtain ⟨el, hel⟩ : ∃ el, n.ls[i]? = some el := ⟨_, List.getElem?_eq_getElem (by omega)⟩
        have hk : 1 ≤ el.kind ∧ el.kind ≤ 4 := lyForm_kind (List.all_eq_true.1 hl.2 _ (List.mem_of_getElem? hel))
        obtain ⟨hr, hw, hp⟩ := chk_bounds hxs hs
        have hxl := chk_len hxs
        rw [List.length_take] at hxl
        have hx8 : xs.length ≤ 8 := by omega
        have hcur : (n.inp :: xs.map (·.out))[i]? = some (lastS n.inp xs) := by
          rw [show i = xs.length by omega]
          exact last_get _ _
        refine z_go ?_
        (apply Sym.drawXL [13, 14] (by kernel_rfl) (by kernel_rfl) (by kernel_rfl))
        have k1 := fnROut (lastS n.inp xs) el hk; refine z_xgo ?_
        refine z_go ?_
        apply Sym.cond
        · rfl
        · intro hfit
          have hfit : (outOf (lastS n.inp xs) el).2 = false := by simpa using hfit
          have hE : ckE n = 21 := by
            have h1 : chk n.inp (n.ls.take i ++ [el]) = none := by rw [chk_snoc, hxs, Option.bind_some, if_neg (by simp [hfit])]
            have h2 : n.ls = n.ls.take i ++ [el] ++ n.ls.drop (i + 1) := by
              rw [← Option.toList_some, ← hel, ← List.take_add_one, List.take_append_drop]
            have h3 : chk n.inp n.ls = none := by
              rw [h2]
              exact chk_none h1
            simp [ckE, hf, hs, h3]
          have hL : ckS n = [] := by simp [ckS, hE]
          rw [hE, hL]
          refine z_go ?_
          with_reducible first | apply Fin.rt | apply Fin.nx
          exact .cons (.tmp rfl (.of (.mk rfl z_vle))) (.cons (.tmp rfl (.of (.of rfl))) .nil)
        · intro hfit
          have hfit : (outOf (lastS n.inp xs) el).2 = true := by simpa using hfit
          obtain ⟨hb1, hb2, hb3⟩ := out_bounds hr hfit
          have hll : (n.inp :: xs.map (·.out)).length ≤ 9 := by
            simp
            omega
          have k1 := fnRW (lastS n.inp xs) el; have k2 := fnRP (lastS n.inp xs) (outOf (lastS n.inp xs) el).1 el; have a1 : AppH encSh (n.inp :: xs.map (·.out)) [(outOf (lastS n.inp xs) el).1] := .mk; refine z_go ?_
          refine ⟨_, ?_, _, ⟨i + 1, xs ++ [lxOf (lastS n.inp xs) el], by omega, ?_, rfl, rfl⟩, ?_⟩
          · omega
          · rw [List.take_add_one, hel, Option.toList_some, chk_snoc, hxs, Option.bind_some, if_pos hfit]
          · rw [sumW_snoc, sumP_snoc, show (n.inp :: (xs ++ [lxOf (lastS n.inp xs) el]).map (·.out)) = (n.inp :: xs.map (·.out)) ++ [(outOf (lastS n.inp xs) el).1] by simp]
            exact z_wkt
      · intro hge
        simp only [decide_eq_false_iff_not] at hge
        obtain rfl : i = n.ls.length := by omega
        rw [List.take_length] at hxs
        refine z_go ?_
        apply Sym.cond
        · rfl
        · intro h5
          have h5' : (decide (sumW xs ≤ 512) && decide (sumP xs ≤ 512)) = false := by
            simp only [Bool.or_eq_true, decide_eq_true_eq] at h5
            simp only [Bool.and_eq_false_iff, decide_eq_false_iff_not]
            omega
          have hE : ckE n = 5 := by simp only [ckE, hf, hs, hxs, h5', if_true, Bool.false_eq_true, if_false]
          have hL : ckS n = [] := by simp [ckS, hE]
          rw [hE, hL]
          refine z_go ?_
          with_reducible first | apply Fin.rt | apply Fin.nx
          exact .cons (.tmp rfl (.of (.mk rfl z_vle))) (.cons (.tmp rfl (.of (.of rfl))) .nil)
        · intro h5
          have h5' : (decide (sumW xs ≤ 512) && decide (sumP xs ≤ 512)) = true := by
            simp only [Bool.or_eq_false_iff, decide_eq_false_iff_not] at h5
            simp only [Bool.and_eq_true, decide_eq_true_eq]
            omega
          have hE : ckE n = 0 := by simp only [ckE, hf, hs, hxs, h5', if_true]
          have hL : ckS n = n.inp :: xs.map (·.out) := by simp only [ckS, ckL, hE, hxs, if_true, Option.getD_some]
          rw [hE, hL]
          refine z_go ?_
          with_reducible first | apply Fin.rt | apply Fin.nx
          exact .cons (.tmp rfl (DVr.list encSh _ rfl (fun q => rfl) rfl rfl)) (.cons (.tmp rfl (.of (.of rfl))) .nil)
theorem fnRRight (n : Nt) : Fn1 Try.prog 32 [ntV n] (.b (ckE n == 0)) := by
  refine Fn1.of (rs := [.b _]) (res := [.tmp 2]) Try.call32 Try.func32 rfl Try.ntmps32 rfl (by simp) fun c hc => ?_
  have k1 := fnRShapes n; refine z_go ?_
  with_reducible first | apply Fin.rt | apply Fin.nx
  exact (.cons (.tmp rfl (.of (.of rfl))) .nil)
theorem fnRSame (a b : List Sh) (ha : a.length ≤ 1000000) : Fn1 Try.prog 30 [V.list encSh a, V.list encSh b] (.b (a == b)) := by
  refine Fn1.of (rs := [.b _]) (res := [.tmp 4]) Try.call30 Try.func30 rfl Try.ntmps30 rfl (by simp) fun c hc => ?_
  refine z_go ?_
  apply Sym.cond
  · rfl
  · intro h
    have h : ¬ (a.length : Int) = b.length := by simpa using h
    rw [show (a == b) = false by
      rw [beq_eq_false_iff_ne]
      rintro rfl
      exact h rfl]
    refine z_go ?_
    with_reducible first | apply Fin.rt | apply Fin.nx
    exact (.cons (.tmp rfl (.of (.of rfl))) .nil)
  · intro h
    have h : (a.length : Int) = b.length := by simpa using h
    refine z_go ?_
    refine Sym.loop (fun k s => ∃ i : Nat, i ≤ a.length ∧ a.take i = b.take i ∧ k = a.length - i ∧ s = ⟨[(5, true, .p (.i i)), (1, true, .p (V.list encSh b)), (0, true, .p (V.list encSh a))], []⟩) a.length ⟨_, ⟨0, Nat.zero_le _, by simp, by simp, rfl⟩, z_wkt⟩ ?_
    rintro k s ⟨i, hi, heq, rfl, rfl⟩
    refine z_go ?_
    apply Sym.cond
    · rfl
    · intro hlt
      simp only [decide_eq_true_eq] at hlt
      obtain ⟨x, hx⟩ : ∃ x, a[i]? = some x := ⟨_, List.getElem?_eq_getElem (by omega)⟩
      obtain ⟨y, hy⟩ : ∃ y, b[i]? = some y := ⟨_, List.getElem?_eq_getElem (by omega)⟩
      refine z_go ?_
      apply Sym.cond
      · rfl
      · intro hn
        rw [show (a == b) = false by
          rw [beq_eq_false_iff_ne]
          rintro rfl
          rw [hx] at hy
          injection hy with hy
          subst hy
          simp at hn]
        refine z_go ?_
        with_reducible first | apply Fin.rt | apply Fin.nx
        exact (.cons (.tmp rfl (.of (.of rfl))) .nil)
      · intro hn
        have hxy : x = y := by
          cases x
          cases y
          simpa using hn
        refine z_go ?_
        refine ⟨_, ?_, _, ⟨i + 1, by omega, ?_, rfl, rfl⟩, z_wkt⟩
        · omega
        · rw [List.take_add_one, List.take_add_one, hx, hy, heq, hxy]
    · intro hge
      simp only [decide_eq_false_iff_not] at hge
      obtain rfl : i = a.length := by omega
      rw [List.take_length, show a.length = b.length by omega, List.take_length] at heq
      rw [show (a == b) = true by rw [heq]; exact beq_self_eq_true b]
      refine z_go ?_
      with_reducible first | apply Fin.rt | apply Fin.nx
      exact (.cons (.tmp rfl (.of (.of rfl))) .nil)
end Go.Proofs.Ytblabchnpkofgaa
set_option linter.unusedSimpArgs false
set_option linter.unusedVariables false
namespace Go.Proofs.Ytblabchnpkofgaa
open Go.RowKit Go.Sy
theorem chk_get : ∀ {ls : List Ly} {s : Sh} {xs : List Lx} {i : Nat} {el : Ly}, chk s ls = some xs → ls[i]? = some el → ∃ cur, (s :: xs.map (·.out))[i]? = some cur ∧ xs[i]? = some (lxOf cur el) ∧ (s :: xs.map (·.out))[i + 1]? = some (outOf cur el).1
  | [], _, _, _, _, _, h => by simp at h
  | a :: ls, s, xs, i, el, h, he => by
    simp only [chk] at h
    split at h
    · simp only [Option.map_eq_some_iff] at h
      obtain ⟨ys, h1, rfl⟩ := h
      cases i with
      | zero =>
        simp only [List.getElem?_cons_zero, Option.some.injEq] at he
        subst he
        exact ⟨s, rfl, rfl, rfl⟩
      | succ i =>
        simp only [List.getElem?_cons_succ] at he
        obtain ⟨cur, h2, h3, h4⟩ := chk_get h1 he
        exact ⟨cur, h2, h3, h4⟩
    · cases h
theorem ck_get {n : Nt} {i : Nat} {el : Ly} (h : ckE n = 0) (he : n.ls[i]? = some el) : ∃ cur, (ckS n)[i]? = some cur ∧ (ckL n)[i]? = some (lxOf cur el) ∧ (ckS n)[i + 1]? = some (outOf cur el).1 := by
  obtain ⟨_, _, h1, _⟩ := ckE_ok h
  rw [show ckS n = n.inp :: (ckL n).map (·.out) from if_pos h]
  exact chk_get h1 he
theorem ck_len {n : Nt} (h : ckE n = 0) : (ckL n).length = n.ls.length ∧ (ckS n).length = n.ls.length + 1 ∧ n.ls.length ≤ 8 := by
  obtain ⟨h0, _, h1, _⟩ := ckE_ok h
  have h2 := chk_len h1
  rw [show ckS n = n.inp :: (ckL n).map (·.out) from if_pos h]
  simp [h2, (ntForm_all h0).1]
theorem ckW_0 {n : Nt} {i : Int} (h : (ckE n != 0 || decide (i < 0) || decide (i ≥ (n.ls.length : Int))) = true) : ckW n i = (0, 0) ∧ ckP n i = 0 := by
  have : ¬ (0 ≤ i ∧ i < (ckL n).length) := by
    intro ⟨h1, h2⟩
    by_cases h3 : ckE n = 0
    · have := (ck_len h3).1
      simp only [h3, Bool.or_eq_true, decide_eq_true_eq] at h
      rcases h with (h | h) | h
      · simp at h
      · omega
      · omega
    · have : ckL n = [] := by simp [ckL, h3]
      rw [this] at h2
      simp at h2
      omega
  exact ⟨if_neg this, if_neg this⟩
theorem fnRProducts (n : Nt) (i : Int) : Fn1 Try.prog 34 [ntV n, .i i] (.i (ckP n i)) := by
  refine Fn1.of (rs := [.i _]) (res := [.tmp 4]) Try.call34 Try.func34 rfl Try.ntmps34 rfl (by simp) fun c hc => ?_
  have k1 := fnRShapes n; refine z_go ?_
  apply Sym.cond
  · rfl
  · intro h
    rw [(ckW_0 h).2]
    refine z_go ?_
    with_reducible first | apply Fin.rt | apply Fin.nx
    exact (.cons (.tmp rfl (.of (.of rfl))) .nil)
  · intro h
    simp only [Bool.or_eq_false_iff, bne_eq_false_iff_eq, decide_eq_false_iff_not] at h
    obtain ⟨⟨h1, h2⟩, h3⟩ := h
    obtain ⟨j, rfl⟩ : ∃ j : Nat, i = j := ⟨i.toNat, by omega⟩
    obtain ⟨el, hel⟩ : ∃ el, n.ls[j]? = some el := ⟨_, List.getElem?_eq_getElem (by omega)⟩
    obtain ⟨cur, g1, g2, g3⟩ := ck_get h1 hel
    obtain ⟨l1, l2, l3⟩ := ck_len h1
    rw [show ckP n j = pOf cur (outOf cur el).1 el by
      unfold ckP
      rw [if_pos (by omega)]
      simp [g2]]
    have g4 : (ckS n)[((j : Int) + 1).toNat]? = some (outOf cur el).1 := g3
    have k1 := fnRP cur (outOf cur el).1 el; refine z_go ?_
    with_reducible first | apply Fin.rt | apply Fin.nx
    exact (.cons (.tmp rfl (.of (.of rfl))) .nil)
theorem fnRWeights (n : Nt) (i : Int) : Fn1 Try.prog 27 [ntV n, .i i] (.tup [.i (ckW n i).1, .i (ckW n i).2]) := by
  refine Fn1.of (rs := [.i _, .i _]) (res := [.tmp 4, .tmp 5]) Try.call27 Try.func27 rfl Try.ntmps27 rfl (by simp) fun c hc => ?_
  obtain ⟨_, hsum⟩ := ckL_ok n
  have k1 := fnRShapes n; refine z_go ?_
  apply Sym.cond
  · rfl
  · intro h
    rw [(ckW_0 h).1]
    refine z_go ?_
    with_reducible first | apply Fin.rt | apply Fin.nx
    exact .cons (.tmp rfl (.of (.of rfl))) (.cons (.tmp rfl (.of (.of rfl))) .nil)
  · intro h
    simp only [Bool.or_eq_false_iff, bne_eq_false_iff_eq, decide_eq_false_iff_not] at h
    obtain ⟨⟨h1, h2⟩, h3⟩ := h
    obtain ⟨j, rfl⟩ : ∃ j : Nat, i = j := ⟨i.toNat, by omega⟩
    obtain ⟨el, hel⟩ : ∃ el, n.ls[j]? = some el := ⟨_, List.getElem?_eq_getElem (by omega)⟩
    obtain ⟨cur, g1, g2, g3⟩ := ck_get h1 hel
    obtain ⟨l1, l2, l3⟩ := ck_len h1
    rw [show ckW n j = (sumW ((ckL n).take j), wOf cur el) by
      unfold ckW
      rw [if_pos (by omega)]
      simp [g2]]
    refine z_go ?_
    refine Sym.loop (fun k s => ∃ q : Nat, q ≤ j ∧ k = j - q ∧ s = ⟨[(9, true, .p (.i q)), (8, true, .p (.i (sumW ((ckL n).take q)))), (6, true, .p (V.list encSh (ckS n))), (2, true, .ptr 0 0), (1, true, .p (.i j))], [some (ntBox n)]⟩) j ⟨_, ⟨0, Nat.zero_le _, by simp, rfl⟩, z_wkt⟩ ?_
    rintro k s ⟨q, hq, rfl, rfl⟩
    refine z_go ?_
    apply Sym.cond
    · rfl
    · intro hlt
      simp only [decide_eq_true_eq] at hlt
      obtain ⟨el', hel'⟩ : ∃ el, n.ls[q]? = some el := ⟨_, List.getElem?_eq_getElem (by omega)⟩
      obtain ⟨cur', f1, f2, f3⟩ := ck_get h1 hel'
      have hs2 : sumW ((ckL n).take (q + 1)) = sumW ((ckL n).take q) + wOf cur' el' := by rw [List.take_add_one, f2, Option.toList_some, sumW_snoc]
      have b1 := (hsum q).1
      have b2 := (hsum (q + 1)).1
      have k1 := fnRW cur' el'; refine z_go ?_
      refine ⟨_, ?_, _, ⟨q + 1, by omega, rfl, rfl⟩, ?_⟩
      · omega
      · rw [hs2]
        exact z_wkt
    · intro hge
      simp only [decide_eq_false_iff_not] at hge
      obtain rfl : q = j := by omega
      have k1 := fnRW cur el; refine z_go ?_
      with_reducible first | apply Fin.rt | apply Fin.nx
      exact .cons (.tmp rfl (.of (.of rfl))) (.cons (.tmp rfl (.of (.of rfl))) .nil)
theorem ck_step (n : Nt) (q : Nat) : sumW ((ckL n).take (q + 1)) = sumW ((ckL n).take q) + (ckW n q).2 ∧ sumP ((ckL n).take (q + 1)) = sumP ((ckL n).take q) + ckP n q := by
  by_cases h : q < (ckL n).length
  · obtain ⟨el, hel⟩ : ∃ el, (ckL n)[q]? = some el := ⟨_, List.getElem?_eq_getElem h⟩
    unfold ckW ckP
    rw [if_pos (by omega), if_pos (by omega), List.take_add_one, hel, Option.toList_some, sumW_snoc, sumP_snoc]
    simp [hel]
  · unfold ckW ckP
    rw [if_neg (by omega), if_neg (by omega), List.take_of_length_le (by omega), List.take_of_length_le (by omega)]
    simp
theorem ckL_le (n : Nt) : (ckL n).length ≤ n.ls.length := by
  by_cases h : ckE n = 0
  · have := (ck_len h).1
    omega
  · simp [ckL, h]
theorem fnRSums (n : Nt) : Fn1 Try.prog 29 [ntV n] (.tup [.i (sumW (ckL n)), .i (sumP (ckL n))]) := by
  refine Fn1.of (rs := [.i _, .i _]) (res := [.tmp 2, .tmp 3]) Try.call29 Try.func29 rfl Try.ntmps29 rfl (by simp) fun c hc => ?_
  obtain ⟨hl8, hsum⟩ := ckL_ok n
  have hle := ckL_le n
  refine z_go ?_
  refine Sym.loop (fun k s => ∃ q : Nat, q ≤ 9 ∧ k = 9 - q ∧ s = ⟨[(6, true, .p (.i q)), (5, true, .p (.i (sumP ((ckL n).take q)))), (4, true, .p (.i (sumW ((ckL n).take q)))), (1, true, .ptr 0 0)], [some (ntBox n)]⟩) 9 ⟨_, ⟨0, by omega, by simp, rfl⟩, z_wkt⟩ ?_
  rintro k s ⟨q, hq, rfl, rfl⟩
  refine z_go ?_
  apply Sym.cond
  · rfl
  · intro hlt
    simp only [Bool.and_eq_true, decide_eq_true_eq] at hlt
    obtain ⟨s1, s2⟩ := ck_step n q
    have b1 := hsum q
    have b2 := hsum (q + 1)
    have k1 := fnRWeights n q; have k2 := fnRProducts n q; refine z_go ?_
    refine ⟨_, ?_, _, ⟨q + 1, by omega, rfl, rfl⟩, ?_⟩
    · omega
    · rw [s1, s2]
      exact z_wkt
  · intro hge
    have hge : (ckL n).length ≤ q := by
      simp only [Bool.and_eq_false_iff, decide_eq_false_iff_not] at hge
      omega
    rw [List.take_of_length_le hge]
    refine z_go ?_
    with_reducible first | apply Fin.rt | apply Fin.nx
    exact .cons (.tmp rfl (.of (.of rfl))) (.cons (.tmp rfl (.of (.of rfl))) .nil)
end Go.Proofs.Ytblabchnpkofgaa
set_option linter.unusedSimpArgs false
set_option linter.unusedVariables false
namespace Go.Proofs.Ytblabchnpkofgaa
open Go.RowKit Go.Sy
def small : Nt := ⟨⟨1, 4, 4⟩, [⟨1, 2, 3, 1⟩, ⟨2, 0, 0, 0⟩, ⟨3, 0, 2, 0⟩, ⟨4, 3, 0, 0⟩]⟩
theorem fnSmall : Fn1 Try.prog 59 [] (ntV small) := by
  refine Fn1.of (rs := [ntV small]) (res := [.cell 0 26]) Try.call59 Try.func59 rfl Try.ntmps59 rfl (by simp) fun c hc => ?_
  refine z_go ?_
  with_reducible first | apply Fin.rt | apply Fin.nx
  refine .cons (.cellA inferInstance rfl rfl rfl (Nat.le_of_ble_eq_true rfl) (.of (.mk rfl ?_))) .nil
  exact z_vle
def hdA : Nt := ⟨⟨1, 4, 4⟩, [⟨3, 0, 3, 0⟩]⟩
def hdB : Nt := ⟨⟨0, 4, 4⟩, []⟩
def hdC : Nt := ⟨⟨8, 4, 4⟩, [⟨4, 5, 0, 0⟩]⟩
def hdL : List Sh := [⟨1, 4, 4⟩, ⟨2, 2, 2⟩, ⟨2, 2, 2⟩, ⟨2, 1, 1⟩, ⟨3, 1, 1⟩]
theorem head_vals : ckS small = hdL ∧ ckE small = 0 ∧ ckE hdA = 21 ∧ ckE hdB = 1 ∧ ckE hdC = 5 ∧ ckW small 3 = (18, 6) ∧ sumW (ckL small) = 24 ∧ sumP (ckL small) = 86 ∧ ckP small 0 = 72 ∧ ckP small 1 = 8 := by
  decide +kernel
theorem fnHead5 : Fn1 Try.prog 22 [] (.b true) := by
  refine Fn1.of (rs := [.b true]) (res := [.tmp 0]) Try.call22 Try.func22 rfl Try.ntmps22 rfl (by simp) fun c hc => ?_
  obtain ⟨e1, e2, e3, e4, e5, e6, e7, e8, e9, e10⟩ := head_vals
  have q1 := fnCkShapes small
  have q2 := fnCkShapes hdA
  have q3 := fnCkShapes hdB
  have q4 := fnCkShapes hdC
  have q5 := fnCkWeights small 3
  have q6 := fnCkSums small
  have q7 := fnRSame hdL hdL (by decide)
  have q8 := fnCkProducts small 0
  have q9 := fnCkProducts small 1
  have q10 := fnCkRight small
  rw [e1, e2] at q1
  rw [e3] at q2
  rw [e4] at q3
  rw [e5] at q4
  rw [e6] at q5
  rw [e7, e8] at q6
  rw [e9] at q8
  rw [e10] at q9
  rw [e2] at q10
  have k1 := fnSmall; have k2 := q1; have k3 := q2; have k4 := q3; have k5 := q4; have k6 := q5; have k7 := q6; have k8 := q7; have k9 := q8; have k10 := q9; have k11 := q10; refine z_go ?_
  with_reducible first | apply Fin.rt | apply Fin.nx
  refine .cons (.tmp rfl (.of (.of ?_))) .nil
  kernel_rfl
end Go.Proofs.Ytblabchnpkofgaa
set_option linter.unusedSimpArgs false
set_option linter.unusedVariables false
namespace Go.Proofs.Ytblabchnpkofgaa
open Go.RowKit Go.Sy
theorem fnGreat4 (n : Nt) : Fn1 Try.prog 23 [ntV n] (.b (decide ((n.ls.length : Int) > 60))) := by
  refine Fn1.of (rs := [.b _]) (res := [.tmp 2]) Try.call23 Try.func23 rfl Try.ntmps23 rfl (by simp) fun c hc => ?_
  refine z_go ?_
  with_reducible first | apply Fin.rt | apply Fin.nx
  exact (.cons (.tmp rfl (.of (.of rfl))) .nil)
theorem ckS_len (n : Nt) : (ckS n).length ≤ 1000000 := by
  by_cases h : ckE n = 0
  · have := ck_len h
    omega
  · simp [ckS, h]
set_option maxHeartbeats 2000000 in
theorem CheckTells_fn (n : Nt) (i : Int) : Fn1 Try.prog 3 [ntV n, .i i] (.b true) := by
  refine Fn1.of (rs := [.b true]) (res := [.tmp 4]) Try.call3 Try.func3 rfl Try.ntmps3 rfl (by simp) fun c hc => ?_
  have k1 := fnHead5; have k2 := fnGreat4 n; refine z_go ?_
  apply Sym.cond
  · rfl
  · intro _
    refine z_go ?_
    with_reducible first | apply Fin.rt | apply Fin.nx
    exact (.cons (.tmp rfl (.of (.of rfl))) .nil)
  · intro _
    have k1 := fnCkShapes n; have k2 := fnRShapes n; have k3 := fnCkWeights n i; have k4 := fnRWeights n i; have k5 := fnCkSums n; have k6 := fnRSums n; have k7 := fnRSame (ckS n) (ckS n) (ckS_len n); have k8 := fnCkRight n; have k9 := fnRRight n; have k10 := fnCkProducts n i; have k11 := fnRProducts n i; refine z_go ?_
    with_reducible first | apply Fin.rt | apply Fin.nx
    refine .cons (.tmp rfl (.of (.of ?_))) .nil
    simp [D.toV]
end Go.Proofs.Ytblabchnpkofgaa
set_option linter.unusedSimpArgs false
set_option linter.unusedVariables false
namespace Go.Proofs.Ytblabchnpkofgaa
open Go.RowKit Go.Sy
theorem chk_append : ∀ (ps bs : List Ly) (s : Sh), chk s (ps ++ bs) = (chk s ps).bind fun xs => (chk (lastS s xs) bs).map (xs ++ ·)
  | [], bs, s => by simp [chk, lastS]
  | a :: ps, bs, s => by
    by_cases h : (outOf s a).2 = true
    · simp only [List.cons_append, chk, if_pos h, chk_append ps]
      cases chk (outOf s a).1 ps with
      | none => rfl
      | some xs =>
        simp only [Option.bind_some, Option.map_some, lastS]
        cases chk (lastS (outOf s a).1 xs) bs <;> rfl
    · simp [chk, h]
/-- the layers ahead of a cut, and those behind it -/
theorem chk_cut {ls : List Ly} {s : Sh} {xs : List Lx} (h : chk s ls = some xs) (k : Nat) (hk : k ≤ ls.length) :
    ∃ ys zs, xs = ys ++ zs ∧ ys.length = k ∧ chk s (ls.take k) = some ys ∧ chk (lastS s ys) (ls.drop k) = some zs := by
  rw [← List.take_append_drop k ls, chk_append, Option.bind_eq_some_iff] at h
  obtain ⟨ys, h1, h2⟩ := h
  rw [Option.map_eq_some_iff] at h2
  obtain ⟨zs, h2, rfl⟩ := h2
  refine ⟨ys, zs, rfl, ?_, h1, h2⟩
  rw [chk_len h1, List.length_take]
  omega
theorem ntForm_iff {n : Nt} : ntForm n = true ↔ n.ls.length ≤ 8 ∧ (inN n.inp.c 999999 && inN n.inp.h 999999 && inN n.inp.w 999999) = true ∧ n.ls.all lyForm = true := by
  unfold ntForm
  generalize inN n.inp.c 999999 = a
  generalize inN n.inp.h 999999 = b
  generalize inN n.inp.w 999999 = d
  simp only [Bool.and_eq_true, Bool.not_eq_true', decide_eq_false_iff_not]
  constructor
  · rintro ⟨⟨⟨⟨h1, h2⟩, h3⟩, h4⟩, h5⟩
    exact ⟨by omega, ⟨⟨h2, h3⟩, h4⟩, h5⟩
  · rintro ⟨h1, ⟨⟨h2, h3⟩, h4⟩, h5⟩
    exact ⟨⟨⟨⟨by omega, h2⟩, h3⟩, h4⟩, h5⟩
theorem ckE_ok' {n : Nt} {xs : List Lx} (h1 : ntForm n = true) (h2 : shRight n.inp = true) (h3 : chk n.inp n.ls = some xs) (h4 : sumW xs ≤ 512) (h5 : sumP xs ≤ 512) : ckE n = 0 ∧ ckL n = xs ∧ ckS n = n.inp :: xs.map (·.out) := by
  have e : ckE n = 0 := by simp [ckE, h1, h2, h3, h4, h5]
  have l : ckL n = xs := by simp [ckL, e, h3]
  exact ⟨e, l, by rw [show ckS n = _ from if_pos e, l]⟩
theorem sumW_append (xs ys : List Lx) : sumW (xs ++ ys) = sumW xs + sumW ys := by simp [sumW]
theorem sumP_append (xs ys : List Lx) : sumP (xs ++ ys) = sumP xs + sumP ys := by simp [sumP]
theorem chk_fit : ∀ {ls : List Ly} {s : Sh} {xs : List Lx} {i : Nat} {el : Ly}, chk s ls = some xs → shRight s = true → ls[i]? = some el → ∃ cur, (s :: xs.map (·.out))[i]? = some cur ∧ shRight cur = true ∧ (outOf cur el).2 = true ∧ xs[i]? = some (lxOf cur el) ∧ (s :: xs.map (·.out))[i + 1]? = some (outOf cur el).1
  | [], _, _, _, _, _, _, h => by simp at h
  | a :: ls, s, xs, i, el, h, hs, he => by
    simp only [chk] at h
    split at h
    · rename_i hf
      simp only [Option.map_eq_some_iff] at h
      obtain ⟨ys, h1, rfl⟩ := h
      cases i with
      | zero =>
        simp only [List.getElem?_cons_zero, Option.some.injEq] at he
        subst he
        exact ⟨s, rfl, hs, hf, rfl, rfl⟩
      | succ i =>
        simp only [List.getElem?_cons_succ] at he
        obtain ⟨cur, h2, h3, h4, h5, h6⟩ := chk_fit h1 (out_bounds hs hf).1 he
        exact ⟨cur, h2, h3, h4, h5, h6⟩
    · cases h
theorem ck_fit {n : Nt} {i : Nat} {el : Ly} (h : ckE n = 0) (he : n.ls[i]? = some el) : ∃ cur, (ckS n)[i]? = some cur ∧ shRight cur = true ∧ (outOf cur el).2 = true ∧ (1 ≤ el.kind ∧ el.kind ≤ 4) ∧ (ckL n)[i]? = some (lxOf cur el) ∧ (ckS n)[i + 1]? = some (outOf cur el).1 := by
  obtain ⟨h0, h1, h2, _⟩ := ckE_ok h
  rw [show ckS n = n.inp :: (ckL n).map (·.out) from if_pos h]
  obtain ⟨cur, a1, a2, a3, a4, a5⟩ := chk_fit h2 h1 he
  exact ⟨cur, a1, a2, a3, lyForm_kind (List.all_eq_true.1 (ntForm_all h0).2 _ (List.mem_of_getElem? he)), a4, a5⟩
/-- what a layer weighs, by its kind -/
theorem out_pos {s : Sh} {l : Ly} (hs : shRight s = true) (hf : (outOf s l).2 = true) (hk : 1 ≤ l.kind ∧ l.kind ≤ 4) :
    (wOf s l = 0 ↔ l.kind = 2 ∨ l.kind = 3) ∧ (pOf s (outOf s l).1 l = 0 ↔ l.kind = 3) ∧ 0 ≤ wOf s l ∧ wOf s l ≤ pOf s (outOf s l).1 l := by
  have hb := shRight_iff.1 hs
  have hm := shMul hs
  have hz : 1 ≤ shSize s ∧ shSize s ≤ 128 := by
    unfold shSize
    rw [if_pos hs]
    omega
  by_cases h1 : l.kind = 1
  · have e := fits1 (s := s) h1
    rw [e] at hf ⊢
    obtain ⟨h2, h3⟩ := shSized_t (s := s) (t := ⟨l.out, conv1 l.size l.step s.h, conv1 l.size l.step s.w⟩) hf
    have hb2 := shRight_iff.1 h2
    have hsz : 1 ≤ l.size ∧ l.size ≤ 12 := by
      by_cases hh : 1 ≤ l.size ∧ l.size ≤ s.h ∧ 1 ≤ l.step ∧ l.step ≤ 12
      · omega
      · have := conv1_0 (size := l.size) (step := l.step) (n := s.h) hh
        have h4 := hb2.2.1.1
        simp only at h4
        omega
    have hout : 1 ≤ l.out ∧ l.out ≤ 8 := hb2.1
    have m1 := mulB (a := l.out) (b := s.c) (A := 8) (B := 8) (by omega) (by omega)
    have m2 := mulB (a := l.out * s.c) (b := l.size) (A := 64) (B := 12) (by omega) (by omega)
    have m3 := mulB (a := l.out * s.c * l.size) (b := l.size) (A := 768) (B := 12) (by omega) (by omega)
    have ew : wOf s l = l.out * s.c * l.size * l.size := by
      simp only [wOf, h1, if_true]
      rw [w64_in (a := l.out * s.c) (by omega), w64_in (a := l.out * s.c * l.size) (by omega), w64_in (by omega)]
    have p1 : 1 * 1 ≤ l.out * s.c := Int.mul_le_mul hout.1 hb.1.1 (by omega) (by omega)
    have p2 : 1 * 1 ≤ l.out * s.c * l.size := Int.mul_le_mul (by omega) hsz.1 (by omega) (by omega)
    have p3 : 1 * 1 ≤ l.out * s.c * l.size * l.size := Int.mul_le_mul (by omega) hsz.1 (by omega) (by omega)
    have q1 : 1 ≤ (shConv s l.out l.size l.step).1.h ∧ (shConv s l.out l.size l.step).1.h ≤ 12 := by rw [shConv, h3]; exact hb2.2.1
    have q2 : 1 ≤ (shConv s l.out l.size l.step).1.w ∧ (shConv s l.out l.size l.step).1.w ≤ 12 := by rw [shConv, h3]; exact hb2.2.2.1
    have m4 := mulB (a := wOf s l) (b := (shConv s l.out l.size l.step).1.h) (A := 9216) (B := 12) (by omega) (by omega)
    have m5 := mulB (a := wOf s l * (shConv s l.out l.size l.step).1.h) (b := (shConv s l.out l.size l.step).1.w) (A := 110592) (B := 12) (by omega) (by omega)
    have p4 : wOf s l * 1 ≤ wOf s l * (shConv s l.out l.size l.step).1.h := Int.mul_le_mul (Int.le_refl _) q1.1 (by omega) (by omega)
    have p5 : wOf s l * (shConv s l.out l.size l.step).1.h * 1 ≤ wOf s l * (shConv s l.out l.size l.step).1.h * (shConv s l.out l.size l.step).1.w := Int.mul_le_mul (Int.le_refl _) q2.1 (by omega) (by omega)
    have ep : pOf s (shConv s l.out l.size l.step).1 l = wOf s l * (shConv s l.out l.size l.step).1.h * (shConv s l.out l.size l.step).1.w := by
      simp only [pOf, h1, if_true]
      rw [w64_in (a := wOf s l * (shConv s l.out l.size l.step).1.h) (by omega), w64_in (by omega)]
    refine ⟨by omega, by omega, by omega, by omega⟩
  · by_cases h2 : l.kind = 2
    · have e := fits2 (s := s) h2
      have ew : wOf s l = 0 := by simp only [wOf, h2, if_true, if_false, Int.reduceEq]
      have ep : pOf s (outOf s l).1 l = shSize s := by simp only [pOf, h2, if_true, if_false, Int.reduceEq]
      omega
    · by_cases h3 : l.kind = 3
      · have ew : wOf s l = 0 := by simp only [wOf, h3, if_true, if_false, Int.reduceEq]
        have ep : pOf s (outOf s l).1 l = 0 := by simp only [pOf, h3, if_true, if_false, Int.reduceEq]
        omega
      · have h4 : l.kind = 4 := by omega
        have e := fits4 (s := s) h4
        rw [e, Bool.and_eq_true, decide_eq_true_eq, decide_eq_true_eq] at hf
        have m1 := mulB (a := l.out) (b := shSize s) (A := 8) (B := 128) (by omega) (by omega)
        have p1 : 1 * 1 ≤ l.out * shSize s := Int.mul_le_mul hf.1 hz.1 (by omega) (by omega)
        have ew : wOf s l = l.out * shSize s := by
          simp only [wOf, h4, if_true, if_false, Int.reduceEq]
          rw [w64_in (by omega)]
        have ep : pOf s (outOf s l).1 l = wOf s l := by simp only [pOf, h4, if_true, if_false, Int.reduceEq]
        omega
theorem ck_at {n : Nt} (h : ckE n = 0) {i : Nat} {el : Ly} (he : n.ls[i]? = some el) : (ckW n i).1 = sumW ((ckL n).take i) ∧ 0 ≤ (ckW n i).2 ∧ (ckW n i).2 ≤ ckP n i ∧ ((ckW n i).2 = 0 ↔ el.kind = 2 ∨ el.kind = 3) ∧ (ckP n i = 0 ↔ el.kind = 3) := by
  obtain ⟨cur, a1, a2, a3, a4, a5, a6⟩ := ck_fit h he
  have hl : i < (ckL n).length := (List.getElem?_eq_some_iff.1 a5).1
  obtain ⟨b1, b2, b3, b4⟩ := out_pos a2 a3 a4
  have e1 : ckW n i = (sumW ((ckL n).take i), wOf cur el) := by
    unfold ckW
    rw [if_pos (by omega)]
    simp [a5]
  have e2 : ckP n i = pOf cur (outOf cur el).1 el := by
    unfold ckP
    rw [if_pos (by omega)]
    simp [a5]
  rw [e1, e2]
  exact ⟨rfl, b3, b4, b1, b2⟩
theorem ck_bad {n : Nt} (h : ¬ ckE n = 0) (i : Int) : ckL n = [] ∧ ckS n = [] ∧ ckW n i = (0, 0) ∧ ckP n i = 0 := by
  have h1 : ckL n = [] := by simp [ckL, h]
  have h2 : ¬ (0 ≤ i ∧ i < (ckL n).length) := by
    rw [h1]
    simp
  exact ⟨h1, by simp [ckS, h], if_neg h2, if_neg h2⟩
/-! ### cuts -/
abbrev ntCut (n : Nt) (k : Nat) : Nt := ⟨n.inp, n.ls.take k⟩
theorem sum_le (xs ys : List Lx) (h : ∀ x ∈ xs ++ ys, 0 ≤ x.ws ∧ 0 ≤ x.ps) : sumW xs ≤ sumW (xs ++ ys) ∧ sumP xs ≤ sumP (xs ++ ys) := by
  have h1 : ∀ l : List Lx, (∀ x ∈ l, 0 ≤ x.ws ∧ 0 ≤ x.ps) → 0 ≤ sumW l ∧ 0 ≤ sumP l := by
    intro l
    induction l with
    | nil => intro _; simp [sumW, sumP]
    | cons x l ih =>
      intro h
      have a := h x (by simp)
      have b := ih fun y hy => h y (by simp [hy])
      rw [sumW_cons, sumP_cons]
      omega
  have h2 := h1 ys fun x hx => h x (by simp [hx])
  rw [sumW_append, sumP_append]
  omega
theorem ck_cut {n : Nt} (h : ckE n = 0) {k : Nat} (hk : k ≤ n.ls.length) : ckE (ntCut n k) = 0 ∧ ckL (ntCut n k) = (ckL n).take k ∧ ckS (ntCut n k) = (ckS n).take (k + 1) := by
  obtain ⟨h0, h1, h2, h3, h4⟩ := ckE_ok h
  obtain ⟨ys, zs, e1, e2, e3, e4⟩ := chk_cut h2 k hk
  have hn := chk_nonneg h2 h1
  rw [e1] at hn h3 h4
  have hs := sum_le ys zs hn
  obtain ⟨f1, f2, f3⟩ := ntForm_iff.1 h0
  obtain ⟨a1, a2, a3⟩ := ckE_ok' (n := ntCut n k) (xs := ys) (ntForm_iff.2 ⟨by simp; omega, f2, by
    rw [List.all_eq_true] at f3 ⊢
    intro x hx
    exact f3 x (List.mem_of_mem_take hx)⟩) h1 e3 (by omega) (by omega)
  refine ⟨a1, by rw [a2, e1, ← e2, List.take_left], ?_⟩
  rw [a3, show ckS n = _ from if_pos h, e1, List.take_succ_cons, ← List.map_take, ← e2, List.take_left]
theorem ck_cutW {n : Nt} (h : ckE n = 0) {k : Nat} (hk : k ≤ n.ls.length) (i : Nat) : (i < k → ckW (ntCut n k) i = ckW n i ∧ ckP (ntCut n k) i = ckP n i) ∧ (k ≤ i → ckW (ntCut n k) i = (0, 0) ∧ ckP (ntCut n k) i = 0) ∧ (i = k → i < n.ls.length → (ckW n i).1 = sumW (ckL (ntCut n k))) := by
  obtain ⟨a1, a2, a3⟩ := ck_cut h hk
  obtain ⟨l1, l2, l3⟩ := ck_len h
  have hl : ((ckL n).take k).length = k := by simp; omega
  refine ⟨fun hi => ?_, fun hi => ?_, ?_⟩
  · unfold ckW ckP
    rw [a2, if_pos (by omega), if_pos (by omega), if_pos (by omega), if_pos (by omega), Int.toNat_natCast, List.take_take, Nat.min_eq_left (by omega)]
    constructor <;> simp [List.getElem?_take, hi]
  · unfold ckW ckP
    rw [a2, if_neg (by omega), if_neg (by omega)]
    exact ⟨rfl, rfl⟩
  · rintro rfl hi
    unfold ckW
    rw [if_pos (by omega), Int.toNat_natCast, a2]
theorem ck_cutSum {n : Nt} (h : ckE n = 0) {k : Nat} (hk : k ≤ n.ls.length) : sumW (ckL (ntCut n k)) ≤ sumW (ckL n) ∧ sumP (ckL (ntCut n k)) ≤ sumP (ckL n) := by
  obtain ⟨a1, a2, a3⟩ := ck_cut h hk
  obtain ⟨h0, h1, h2, h3, h4⟩ := ckE_ok h
  have hn := chk_nonneg h2 h1
  rw [a2]
  have := sum_le ((ckL n).take k) ((ckL n).drop k) (by rw [List.take_append_drop]; exact hn)
  rwa [List.take_append_drop] at this
/-! ### a Square more -/
abbrev sq : Ly := ⟨2, 0, 0, 0⟩
abbrev ntSq (n : Nt) (k : Nat) : Nt := ⟨n.inp, n.ls.take k ++ [sq] ++ n.ls.drop k⟩
theorem ck_sq {n : Nt} (h : ckE n = 0) {k : Nat} (hk : k ≤ n.ls.length) (h8 : n.ls.length < 8) {cur : Sh} (hc : (ckS n)[k]? = some cur) :
    if sumP (ckL n) + shSize cur > 512 then ckE (ntSq n k) = 5 ∧ ckS (ntSq n k) = [] else
      ckE (ntSq n k) = 0 ∧ (ckS (ntSq n k)).length = (ckS n).length + 1 ∧ (ckS (ntSq n k))[(ckS n).length]? = (ckS n)[(ckS n).length - 1]? ∧ (ckS (ntSq n k))[k]? = some cur ∧ (ckS (ntSq n k))[k + 1]? = some cur ∧ sumW (ckL (ntSq n k)) = sumW (ckL n) ∧ sumP (ckL (ntSq n k)) = sumP (ckL n) + shSize cur := by
  obtain ⟨h0, h1, h2, h3, h4⟩ := ckE_ok h
  obtain ⟨ys, zs, e1, e2, e3, e4⟩ := chk_cut h2 k hk
  obtain ⟨f1, f2, f3⟩ := ntForm_iff.1 h0
  have hS : ckS n = n.inp :: (ckL n).map (·.out) := if_pos h
  have hcur : lastS n.inp ys = cur := by
    have := last_get n.inp ys
    rw [hS, e1, List.map_append, ← List.cons_append, List.getElem?_append_left (by simp; omega), ← e2, this] at hc
    exact Option.some.inj hc
  rw [hcur] at e4
  have hsq : outOf cur sq = (cur, true) := fits2 rfl
  have hlx : lxOf cur sq = ⟨sq, cur, cur, 0, shSize cur⟩ := by simp [lxOf, hsq, wOf, pOf]
  have hchk : chk n.inp (n.ls.take k ++ [sq] ++ n.ls.drop k) = some (ys ++ lxOf cur sq :: zs) := by
    rw [List.append_assoc, chk_append, e3, Option.bind_some, hcur, List.singleton_append]
    simp only [chk, hsq, if_true, e4, Option.map_some]
  have hform : ntForm (ntSq n k) = true := ntForm_iff.2 ⟨by simp; omega, f2, by
    rw [List.all_append, List.all_append, Bool.and_assoc, Bool.and_comm ([sq].all lyForm), ← Bool.and_assoc, ← List.all_append, List.take_append_drop, f3]
    decide⟩
  have hw : sumW (ys ++ lxOf cur sq :: zs) = sumW (ckL n) := by
    rw [e1, hlx, sumW_append, sumW_append, sumW_cons]
    simp only
    omega
  have hp : sumP (ys ++ lxOf cur sq :: zs) = sumP (ckL n) + shSize cur := by
    rw [e1, hlx, sumP_append, sumP_append, sumP_cons]
    simp only
    omega
  split
  · rename_i hbig
    have he : ckE (ntSq n k) = 5 := by
      unfold ckE
      rw [if_pos hform, if_pos h1]
      simp only [hchk, hw, hp]
      rw [if_neg]
      simp only [Bool.and_eq_true, decide_eq_true_eq]
      omega
    exact ⟨he, by simp [ckS, he]⟩
  · rename_i hbig
    obtain ⟨a1, a2, a3⟩ := ckE_ok' (n := ntSq n k) hform h1 hchk (by omega) (by omega)
    have hl : (ckL n).length = k + zs.length := by rw [e1]; simp [e2]
    have hout : ckS (ntSq n k) = (n.inp :: ys.map (·.out)) ++ cur :: zs.map (·.out) := by
      rw [a3, hlx]
      simp
    have hS' : ckS n = (n.inp :: ys.map (·.out)) ++ zs.map (·.out) := by
      rw [hS, e1]
      simp
    have hyl : (n.inp :: ys.map (·.out)).length = k + 1 := by simp [e2]
    have hlast : (n.inp :: ys.map (·.out))[k]? = some cur := by
      rw [← e2, last_get, hcur]
    refine ⟨a1, by rw [hout, hS']; simp; omega, ?_, ?_, ?_, by rw [a2, hw], by rw [a2, hp]⟩
    · rw [hout, hS', List.length_append, hyl, List.getElem?_append_right (by omega), hyl]
      cases hz : zs.map (·.out) with
      | nil => simp [← hlast]
      | cons z t =>
        rw [List.getElem?_append_right (by simp; omega), hyl]
        simp [show k + 1 + (t.length + 1) - (k + 1) = t.length + 1 by omega, show k + 1 + (t.length + 1) - 1 - (k + 1) = t.length by omega]
    · rw [hout, List.getElem?_append_left (by omega), hlast]
    · rw [hout, List.getElem?_append_right (by omega), hyl]
      simp
/-! ### a layer more -/
abbrev ntMore (n : Nt) (l : Ly) : Nt := ⟨n.inp, n.ls ++ [l]⟩
theorem ck_more (n : Nt) (l : Ly) :
    (ntForm (ntMore n l) = false → ckE (ntMore n l) = 12 ∧ ckS (ntMore n l) = []) ∧
    (ntForm (ntMore n l) = true → shRight n.inp = false → ckE (ntMore n l) = 1 ∧ ckS (ntMore n l) = []) ∧
    (ntForm (ntMore n l) = true → shRight n.inp = true → (ckE n = 21 → ckE (ntMore n l) = 21) ∧ (ckE n = 5 → ckE (ntMore n l) = 21 ∨ ckE (ntMore n l) = 5) ∧ (ckE n ≠ 21 → ckE n ≠ 5 → ckE n = 0 ∧ (ckE (ntMore n l) = 0 ∨ ckE (ntMore n l) = 21 ∨ ckE (ntMore n l) = 5 ∧ (l.kind = 1 ∨ l.kind = 4 ∨ l.kind = 2)))) := by
  refine ⟨fun h => ?_, fun h h1 => ?_, fun h h1 => ?_⟩
  · have he : ckE (ntMore n l) = 12 := by simp [ckE, h]
    exact ⟨he, by simp [ckS, he]⟩
  · have he : ckE (ntMore n l) = 1 := by simp [ckE, h, h1]
    exact ⟨he, by simp [ckS, he]⟩
  · obtain ⟨f1, f2, f3⟩ := ntForm_iff.1 h
    rw [List.all_append, Bool.and_eq_true] at f3
    have hf : ntForm n = true := ntForm_iff.2 ⟨by simp at f1; omega, f2, f3.1⟩
    have hlk : 1 ≤ l.kind ∧ l.kind ≤ 4 := lyForm_kind (by simpa using f3.2)
    unfold ckE
    rw [if_pos hf, if_pos h1, if_pos h, if_pos h1]
    cases hx : chk n.inp n.ls with
    | none =>
      rw [chk_none hx]
      simp
    | some xs =>
      rw [chk_snoc, hx, Option.bind_some]
      obtain ⟨b1, b2, b3⟩ := chk_bounds hx h1
      by_cases hfit : (outOf (lastS n.inp xs) l).2 = true
      · rw [if_pos hfit]
        simp only [sumW_snoc, sumP_snoc]
        obtain ⟨c1, c2, c3⟩ := out_bounds b1 hfit
        obtain ⟨d1, d2, d3, d4⟩ := out_pos b1 hfit hlk
        by_cases hs : (decide (sumW xs ≤ 512) && decide (sumP xs ≤ 512)) = true
        · rw [if_pos hs]
          simp only [Bool.and_eq_true, decide_eq_true_eq] at hs
          refine ⟨by simp, by simp, fun _ _ => ⟨rfl, ?_⟩⟩
          split
          · exact .inl rfl
          · rename_i hn
            simp only [Bool.and_eq_true, decide_eq_true_eq] at hn
            refine .inr (.inr ⟨rfl, ?_⟩)
            have : ¬ l.kind = 3 := by
              intro hk
              have := d1.2 (.inr hk)
              have := d2.2 hk
              omega
            omega
        · rw [if_neg hs]
          simp only [Bool.and_eq_true, decide_eq_true_eq] at hs
          refine ⟨by simp, fun _ => ?_, by simp⟩
          rw [if_neg]
          · exact .inr rfl
          · simp only [Bool.and_eq_true, decide_eq_true_eq]
            omega
      · rw [if_neg hfit]
        simp only
        split <;> simp
theorem modN (a : Int) (l : Nat) (ha : 0 ≤ a) : ∃ k : Nat, a % ((l : Int) + 1) = k ∧ k ≤ l := by
  have h1 := Int.emod_nonneg a (b := (l : Int) + 1) (by omega)
  have h2 := Int.emod_lt_of_pos a (b := (l : Int) + 1) (by omega)
  exact ⟨(a % ((l : Int) + 1)).toNat, by omega, by omega⟩
end Go.Proofs.Ytblabchnpkofgaa
