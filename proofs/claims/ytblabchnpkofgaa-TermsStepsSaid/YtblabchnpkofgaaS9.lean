/- Layer 05's own answer: Shapes and what stands on it. -/
import Derived.Test.YtblabchnpkofgaaS8
set_option linter.unusedSimpArgs false
set_option linter.unusedVariables false
namespace Go.Proofs.Ytblabchnpkofgaa
open Go.RowKit Go.Sy
theorem last_get : ∀ (s : Sh) (xs : List Lx), (s :: xs.map (·.out))[xs.length]? = some (lastS s xs)
  | _, [] => rfl
  | _, x :: xs => by
    have := last_get x.out xs
    simpa [lastS] using this
theorem fnRShapes (n : Nt) : Fn1 Try.prog 25 [ntV n] (.tup [V.list encSh (ckS n), .i (ckE n)]) := by
  refine Fn1.of (rs := [V.list encSh (ckS n), .i _]) (res := [.tmp 2, .tmp 3]) Try.call25 Try.func25 rfl Try.ntmps25 rfl (by simp) fun c hc => ?_
  have k1 := fnRForm n; refine z_go ?_
  apply Sym.cond
  · rfl
  · intro h
    have hf : ntForm n = false := by simpa using h
    have hE : ckE n = 12 := by simp [ckE, hf]
    have hL : ckS n = [] := by simp [ckS, hE]
    rw [hE, hL]
    refine z_go ?_
    with_reducible first | apply Fin.rt | apply Fin.nx
    exact .cons (.tmp rfl (.of (.mk rfl z_vle))) (.cons (.tmp rfl (.of (.of rfl))) .nil)
  · intro h
    have hf : ntForm n = true := by simpa using h
    have k1 := fnRShRight n.inp; refine z_go ?_
    apply Sym.cond
    · rfl
    · intro h
      have hs : shRight n.inp = false := by simpa using h
      have hE : ckE n = 1 := by simp [ckE, hf, hs]
      have hL : ckS n = [] := by simp [ckS, hE]
      rw [hE, hL]
      refine z_go ?_
      with_reducible first | apply Fin.rt | apply Fin.nx
      exact .cons (.tmp rfl (.of (.mk rfl z_vle))) (.cons (.tmp rfl (.of (.of rfl))) .nil)
    · intro h
      have hs : shRight n.inp = true := by simpa using h
      have hl : n.ls.length ≤ 8 ∧ n.ls.all lyForm = true := ntForm_all hf
      have b1 : RowH 19 := .mk; refine z_go ?_
      refine Sym.loop (fun k s => ∃ (i : Nat) (xs : List Lx), i ≤ n.ls.length ∧ chk n.inp (n.ls.take i) = some xs ∧ k = n.ls.length - i ∧ s = ⟨[(7, true, .p (.i i)), (6, true, .p (.i (sumP xs))), (5, true, .p (.i (sumW xs))), (4, true, .row 1 (n.inp :: xs.map (·.out)).length), (1, true, .ptr 0 0)], [some (ntBox n), some ⟨D.enc encSh (n.inp :: xs.map (·.out)), 23, 3⟩]⟩) n.ls.length ⟨_, ⟨0, [], Nat.zero_le _, rfl, by simp, rfl⟩, ?_⟩ ?_
      · exact z_wkt
      rintro k s ⟨i, xs, hi, hxs, rfl, rfl⟩
      refine z_go ?_
      apply Sym.cond
      · rfl
      · intro hlt
        simp only [decide_eq_true_eq] at hlt
        obtain ⟨el, hel⟩ : ∃ el, n.ls[i]? = some el := ⟨_, List.getElem?_eq_getElem (by omega)⟩
        have hk : 1 ≤ el.kind ∧ el.kind ≤ 4 := lyForm_kind (List.all_eq_true.1 hl.2 _ (List.mem_of_getElem? hel))
        obtain ⟨hr, hw, hp⟩ := chk_bounds hxs hs
        have hxl := chk_len hxs
        rw [List.length_take] at hxl
        have hx8 : xs.length ≤ 8 := by omega
        have hcur : (n.inp :: xs.map (·.out))[i]? = some (lastS n.inp xs) := by
          rw [show i = xs.length by omega]
          exact last_get _ _
        refine z_go ?_
        (apply Sym.drawXL [13, 14] (by kernel_rfl) (by kernel_rfl) (by kernel_rfl))
        have k1 := fnROut (lastS n.inp xs) el hk; refine z_xgo ?_
        refine z_go ?_
        apply Sym.cond
        · rfl
        · intro hfit
          have hfit : (outOf (lastS n.inp xs) el).2 = false := by simpa using hfit
          have hE : ckE n = 21 := by
            have h1 : chk n.inp (n.ls.take i ++ [el]) = none := by rw [chk_snoc, hxs, Option.bind_some, if_neg (by simp [hfit])]
            have h2 : n.ls = n.ls.take i ++ [el] ++ n.ls.drop (i + 1) := by
              rw [← Option.toList_some, ← hel, ← List.take_add_one, List.take_append_drop]
            have h3 : chk n.inp n.ls = none := by
              rw [h2]
              exact chk_none h1
            simp [ckE, hf, hs, h3]
          have hL : ckS n = [] := by simp [ckS, hE]
          rw [hE, hL]
          refine z_go ?_
          with_reducible first | apply Fin.rt | apply Fin.nx
          exact .cons (.tmp rfl (.of (.mk rfl z_vle))) (.cons (.tmp rfl (.of (.of rfl))) .nil)
        · intro hfit
          have hfit : (outOf (lastS n.inp xs) el).2 = true := by simpa using hfit
          obtain ⟨hb1, hb2, hb3⟩ := out_bounds hr hfit
          have hll : (n.inp :: xs.map (·.out)).length ≤ 9 := by
            simp
            omega
          have k1 := fnRW (lastS n.inp xs) el; have k2 := fnRP (lastS n.inp xs) (outOf (lastS n.inp xs) el).1 el; have a1 : AppH encSh (n.inp :: xs.map (·.out)) [(outOf (lastS n.inp xs) el).1] := .mk; refine z_go ?_
          refine ⟨_, ?_, _, ⟨i + 1, xs ++ [lxOf (lastS n.inp xs) el], by omega, ?_, rfl, rfl⟩, ?_⟩
          · omega
          · rw [List.take_add_one, hel, Option.toList_some, chk_snoc, hxs, Option.bind_some, if_pos hfit]
          · rw [sumW_snoc, sumP_snoc, show (n.inp :: (xs ++ [lxOf (lastS n.inp xs) el]).map (·.out)) = (n.inp :: xs.map (·.out)) ++ [(outOf (lastS n.inp xs) el).1] by simp]
            exact z_wkt
      · intro hge
        simp only [decide_eq_false_iff_not] at hge
        obtain rfl : i = n.ls.length := by omega
        rw [List.take_length] at hxs
        refine z_go ?_
        apply Sym.cond
        · rfl
        · intro h5
          have h5' : (decide (sumW xs ≤ 512) && decide (sumP xs ≤ 512)) = false := by
            simp only [Bool.or_eq_true, decide_eq_true_eq] at h5
            simp only [Bool.and_eq_false_iff, decide_eq_false_iff_not]
            omega
          have hE : ckE n = 5 := by simp only [ckE, hf, hs, hxs, h5', if_true, Bool.false_eq_true, if_false]
          have hL : ckS n = [] := by simp [ckS, hE]
          rw [hE, hL]
          refine z_go ?_
          with_reducible first | apply Fin.rt | apply Fin.nx
          exact .cons (.tmp rfl (.of (.mk rfl z_vle))) (.cons (.tmp rfl (.of (.of rfl))) .nil)
        · intro h5
          have h5' : (decide (sumW xs ≤ 512) && decide (sumP xs ≤ 512)) = true := by
            simp only [Bool.or_eq_false_iff, decide_eq_false_iff_not] at h5
            simp only [Bool.and_eq_true, decide_eq_true_eq]
            omega
          have hE : ckE n = 0 := by simp only [ckE, hf, hs, hxs, h5', if_true]
          have hL : ckS n = n.inp :: xs.map (·.out) := by simp only [ckS, ckL, hE, hxs, if_true, Option.getD_some]
          rw [hE, hL]
          refine z_go ?_
          with_reducible first | apply Fin.rt | apply Fin.nx
          exact .cons (.tmp rfl (DVr.list encSh _ rfl (fun q => rfl) rfl rfl)) (.cons (.tmp rfl (.of (.of rfl))) .nil)
theorem fnRRight (n : Nt) : Fn1 Try.prog 32 [ntV n] (.b (ckE n == 0)) := by
  refine Fn1.of (rs := [.b _]) (res := [.tmp 2]) Try.call32 Try.func32 rfl Try.ntmps32 rfl (by simp) fun c hc => ?_
  have k1 := fnRShapes n; refine z_go ?_
  with_reducible first | apply Fin.rt | apply Fin.nx
  exact (.cons (.tmp rfl (.of (.of rfl))) .nil)
theorem fnRSame (a b : List Sh) (ha : a.length ≤ 1000000) : Fn1 Try.prog 30 [V.list encSh a, V.list encSh b] (.b (a == b)) := by
  refine Fn1.of (rs := [.b _]) (res := [.tmp 4]) Try.call30 Try.func30 rfl Try.ntmps30 rfl (by simp) fun c hc => ?_
  refine z_go ?_
  apply Sym.cond
  · rfl
  · intro h
    have h : ¬ (a.length : Int) = b.length := by simpa using h
    rw [show (a == b) = false by
      rw [beq_eq_false_iff_ne]
      rintro rfl
      exact h rfl]
    refine z_go ?_
    with_reducible first | apply Fin.rt | apply Fin.nx
    exact (.cons (.tmp rfl (.of (.of rfl))) .nil)
  · intro h
    have h : (a.length : Int) = b.length := by simpa using h
    refine z_go ?_
    refine Sym.loop (fun k s => ∃ i : Nat, i ≤ a.length ∧ a.take i = b.take i ∧ k = a.length - i ∧ s = ⟨[(5, true, .p (.i i)), (1, true, .p (V.list encSh b)), (0, true, .p (V.list encSh a))], []⟩) a.length ⟨_, ⟨0, Nat.zero_le _, by simp, by simp, rfl⟩, z_wkt⟩ ?_
    rintro k s ⟨i, hi, heq, rfl, rfl⟩
    refine z_go ?_
    apply Sym.cond
    · rfl
    · intro hlt
      simp only [decide_eq_true_eq] at hlt
      obtain ⟨x, hx⟩ : ∃ x, a[i]? = some x := ⟨_, List.getElem?_eq_getElem (by omega)⟩
      obtain ⟨y, hy⟩ : ∃ y, b[i]? = some y := ⟨_, List.getElem?_eq_getElem (by omega)⟩
      refine z_go ?_
      apply Sym.cond
      · rfl
      · intro hn
        rw [show (a == b) = false by
          rw [beq_eq_false_iff_ne]
          rintro rfl
          rw [hx] at hy
          injection hy with hy
          subst hy
          simp at hn]
        refine z_go ?_
        with_reducible first | apply Fin.rt | apply Fin.nx
        exact (.cons (.tmp rfl (.of (.of rfl))) .nil)
      · intro hn
        have hxy : x = y := by
          cases x
          cases y
          simpa using hn
        refine z_go ?_
        refine ⟨_, ?_, _, ⟨i + 1, by omega, ?_, rfl, rfl⟩, z_wkt⟩
        · omega
        · rw [List.take_add_one, List.take_add_one, hx, hy, heq, hxy]
    · intro hge
      simp only [decide_eq_false_iff_not] at hge
      obtain rfl : i = a.length := by omega
      rw [List.take_length, show a.length = b.length by omega, List.take_length] at heq
      rw [show (a == b) = true by rw [heq]; exact beq_self_eq_true b]
      refine z_go ?_
      with_reducible first | apply Fin.rt | apply Fin.nx
      exact (.cons (.tmp rfl (.of (.of rfl))) .nil)
end Go.Proofs.Ytblabchnpkofgaa
