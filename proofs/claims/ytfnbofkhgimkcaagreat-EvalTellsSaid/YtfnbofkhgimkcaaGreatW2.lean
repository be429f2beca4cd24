/- Layer 13: rows added, pictures through Pools. -/
import Derived.Test.YtfnbofkhgimkcaaGreatW1
import Derived.Test.YtfnbofkhgimkcaaGreatWq
set_option linter.unusedSimpArgs false
set_option linter.unusedVariables false
namespace Go.Proofs.YtfnbofkhgimkcaaGreat
open Go.RowKit Go.Sy
set_option maxHeartbeats 2000000 in
theorem fnTwo (a b : List Int) (ha : a.length ≤ 1000000) (hb : b.length ≤ 1000000) : Fn1 Tryz.prog 115 [V.list encU a, V.list encU b, .x (.func (.func 116) #[] #[])] (V.list encU (addL a b)) := by
  refine Fn1.of (rs := [V.list encU _]) (res := [.tmp 6]) Tryz.call115 Tryz.func115 rfl Tryz.ntmps115 rfl (by simp) fun c hc => ?_
  have hLl : (addL a b).length = min a.length b.length := by simp [addL]
  obtain ⟨O, hO⟩ : ∃ O, (addL a b).length = O := ⟨_, rfl⟩
  have hm : (if (b.length : Int) < a.length then (b.length : Int) else a.length) = (O : Int) := by split <;> omega
  have hg : ∀ q : Nat, q < O → ∃ x y, a[q]? = some x ∧ b[q]? = some y ∧ (addL a b)[q]? = some (uw (x + y)) := fun q hq => by
    have h1 : q < a.length := by omega
    have h2 : q < b.length := by omega
    exact ⟨_, _, List.getElem?_eq_getElem h1, List.getElem?_eq_getElem h2, by simp [addL, List.getElem?_zipWith, h1, h2]⟩
  generalize addL a b = L at *
  refine z_go ?_
  rw [hm]
  ((with_reducible apply SymL.makeRow (cs := D.enc encU (fillL L 0))); exact z_ev; rfl; rfl; rfl; rfl; omega; rfl; (rw [fillL_0, hO, uenc_repl]); exact rfl; exact rfl)
  refine z_go ?_
  refine Sym.loop (fun k s => ∃ q : Nat, q ≤ O ∧ k = O - q ∧ s = ⟨[(17, true, .p (.i q)), (16, true, .p (.i O)), (7, true, .row 0 O), (2, true, .p (.x (.func (.func 116) #[] #[]))), (1, true, .p (V.list encU b)), (0, true, .p (V.list encU a))], [some (uRow (fillL L q))]⟩) O ⟨_, ⟨0, Nat.zero_le _, by simp, rfl⟩, z_wkt⟩ ?_
  rintro k s ⟨q, hq, rfl, rfl⟩
  refine z_go ?_
  apply Sym.cond
  · rfl
  · intro hlt
    simp only [decide_eq_true_eq] at hlt
    obtain ⟨x, y, hx, hy, hxy⟩ := hg q (by omega)
    refine z_go ?_
    (apply Sym.drawL 13 (by kernel_rfl) (by kernel_rfl))
    repeat ((with_reducible apply MTo.step1); exact z_gd; exact z_mop; exact rfl)
    ((with_reducible apply MTo.step1); exact z_gd; exact MOp.call z_ev z_args fun _ => fnAdd1 x y; exact rfl)
    refine z_mt ?_
    ((with_reducible apply SymL.storeRow (enc := encU) q (uw (x + y))); exact z_ev; exact z_ev; rfl; rfl; rfl; (intro v hv; rw [List.mem_singleton.1 hv]; rfl); rfl; (intro q; rfl); (rw [fillL_len _ (by omega)]; omega); exact z_wr)
    rw [fillL_step hxy]
    refine z_go ?_
    refine ⟨_, ?_, _, ⟨q + 1, by omega, rfl, rfl⟩, z_wkt⟩
    omega
  · intro hge
    simp only [decide_eq_false_iff_not] at hge
    obtain rfl : q = O := by omega
    refine z_go ?_
    with_reducible first | apply Fin.rt | apply Fin.nx
    rw [← hO, fillL_end]
    exact .cons (.tmp rfl (DVr.list encU _ rfl (fun q => rfl) rfl rfl)) .nil
theorem fnAddR (a b : List Int) (ha : a.length ≤ 1000000) (hb : b.length ≤ 1000000) : Fn1 Tryz.prog 114 [V.list encU a, V.list encU b] (V.list encU (addL a b)) := by
  refine Fn1.of (rs := [V.list encU _]) (res := [.tmp 4]) Tryz.call114 Tryz.func114 rfl Tryz.ntmps114 rfl (by simp) fun c hc => ?_
  have k1 := fnTwo a b ha hb; refine z_go ?_
  with_reducible first | apply Fin.rt | apply Fin.nx
  exact (.cons (.tmp rfl (.of (.of rfl))) .nil)
abbrev ptyC (n : Nt) (who s : Int) : List V := [.i n.inp.c, .i n.inp.h, .i n.inp.w, V.list encLy n.ls, .i who, uV s]
abbrev ptyBox (n : Nt) (who s : Int) : Box := ⟨(ptyC n who s).map D.p, 44, 0⟩
set_option maxHeartbeats 2000000 in
theorem fnPooled (n : Nt) (who s : Int) (i : Nat) (xs : List Int) (hn : n.ls.length ≤ 1000000) : Fn1 Tryz.prog 17 [.agg (ptyC n who s), .i i, V.list encU xs] (V.list encU (plT n (zW n) i xs)) := by
  refine Fn1.of (rs := [V.list encU _]) (res := [.tmp 6]) Tryz.call17 Tryz.func17 rfl Tryz.ntmps17 rfl (by simp) fun c hc => ?_
  have hw := (ckL_ok n).2 (ckL n).length
  rw [List.take_length] at hw
  obtain ⟨M, hM⟩ : ∃ M : Nat, sumW (ckL n) = M := ⟨(sumW (ckL n)).toNat, by omega⟩
  have hz : zW n = List.replicate M 0 := by rw [zW, hM]; rfl
  rw [hz]
  clear hz
  have k1 := fnCkSums n; refine z_go ?_
  refine Sym.loop (fun k s' => ∃ (j : Nat) (ys : List Int), n.ls.length - j = k ∧ plT n (List.replicate M 0) j ys = plT n (List.replicate M 0) i xs ∧ s' = ⟨[(7, true, .p (.i M)), (3, true, .ptr 0 0), (2, true, .p (V.list encU ys)), (1, true, .p (.i j))], [some (ptyBox n who s)]⟩) (n.ls.length - i) ⟨_, ⟨i, xs, rfl, rfl, rfl⟩, ?_⟩ ?_
  · rw [hM]
    exact z_wkt
  rintro k s' ⟨j, ys, rfl, hys, rfl⟩
  by_cases hj : j < n.ls.length
  · obtain ⟨el, hel⟩ : ∃ el, n.ls[j]? = some el := ⟨_, List.getElem?_eq_getElem hj⟩
    refine z_go ?_
    apply Sym.cond
    · rfl
    · intro hk
      have hk : el.kind = 3 := by
        simp at hk
        exact hk.2
      rw [plT_pool hel hk] at hys
      have k1 := fnLayer n j ys (List.replicate M 0)
      refine z_go ?_
      refine Sym.drawA (by kernel_rfl) (by kernel_rfl) ?_
      refine z_mta ?_
      ((with_reducible apply MAll.step1); exact z_gd; ((with_reducible apply MOp.makeL (enc := encU) (a0 := 0)); exact z_ev; rfl; rfl; rfl; rfl; omega; rfl); exact rfl)
      refine z_mta ?_
      with_reducible apply MAll.nil
      refine z_go ?_
      refine ⟨_, ?_, _, ⟨j + 1, _, rfl, hys, rfl⟩, z_wkt⟩
      omega
    · intro hk
      have hk : el.kind ≠ 3 := by
        simp at hk
        exact hk hj
      rw [plT_stop (fun el' he => by rw [hel] at he; cases he; exact hk)] at hys
      subst hys
      refine z_go ?_
      with_reducible first | apply Fin.rt | apply Fin.nx
      exact (.cons (.tmp rfl (.of (.of rfl))) .nil)
  · have hof : decide ((j : Int) < n.ls.length) = false := by
      simp
      omega
    rw [plT_stop (fun el he => by rw [List.getElem?_eq_none (by omega)] at he; cases he)] at hys
    subst hys
    repeat (first | with_reducible apply Sym.seq | with_reducible apply Sym.block | apply Sym.regionL)
    iterate 7 ((with_reducible apply SymL.opr); exact z_gd; exact z_mop; exact rfl)
    iterate 8 ((with_reducible apply SymL.opr); exact z_gd; exact MOp.off (by rw [hof]; rfl); exact rfl)
    ((with_reducible apply SymL.opr); exact z_gd; exact MOp.andF z_ev hof; exact rfl)
    refine z_go ?_
    apply Sym.cond
    · rfl
    · intro h
      cases h
    · intro _
      refine z_go ?_
      with_reducible first | apply Fin.rt | apply Fin.nx
      exact (.cons (.tmp rfl (.of (.of rfl))) .nil)
end Go.Proofs.YtfnbofkhgimkcaaGreat
