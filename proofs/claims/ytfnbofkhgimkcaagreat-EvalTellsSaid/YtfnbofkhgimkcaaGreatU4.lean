/- Layer 7: Layer and F, of package plain and of the document. -/
import Derived.Test.YtfnbofkhgimkcaaGreatUA
set_option linter.unusedSimpArgs false
set_option linter.unusedVariables false
namespace Go.Proofs.YtfnbofkhgimkcaaGreat
open Go.RowKit Go.Sy
def laX (n : Nt) (i : Int) (x : Lx) (xs ws : List Int) : List Int × Bool := if (xs.length : Int) = shSize x.inn ∧ (ws.length : Int) = sumW (ckL n) then ((List.range (shSize x.out).toNat).map fun q : Nat => numT (tmT n i q) (ptT n i q) xs ws, true) else ([], false)
/-- what a layer makes of a picture -/
def laT (n : Nt) (i : Int) (xs ws : List Int) : List Int × Bool := if tOk n i then (match (ckL n)[i.toNat]? with | some x => laX n i x xs ws | none => ([], false)) else ([], false)
theorem laT_ok {n : Nt} {j : Nat} {x : Lx} (h : tOk n j = true) (hx : (ckL n)[j]? = some x) (xs ws : List Int) : laT n j xs ws = laX n j x xs ws := by
  unfold laT
  rw [if_pos h, Int.toNat_natCast, hx]
set_option maxHeartbeats 4000000 in
theorem fnRLayer7 (n : Nt) (i : Int) (xs ws : List Int) : Fn1 Tryz.prog 40 [ntV n, .i i, V.list encU xs, V.list encU ws] (.tup [V.list encU (laT n i xs ws).1, .b (laT n i xs ws).2]) := by
  refine Fn1.of (rs := [V.list encU _, .b _]) (res := [.tmp 8, .tmp 9]) Tryz.call40 Tryz.func40 rfl Tryz.ntmps40 rfl (by simp) fun c hc => ?_
  have kR := fnRShapes n
  have kA := fnRSums n
  by_cases hok : tOk n i = true
  · obtain ⟨j, el, cur, rfl, hE, hel, g1, g2, g3, g4, g5, g6, g7, g8⟩ := tOk_at hok
    have hz := shSize_b (outOf cur el).1
    have hza := shSize_b cur
    have hjl : j < n.ls.length := (List.getElem?_eq_some_iff.1 hel).1
    obtain ⟨l1, l2, l3⟩ := ck_len hE
    have g6' : (ckS n)[((j : Int) + 1).toNat]? = some (outOf cur el).1 := g6
    rw [hE] at kR
    rw [laT_ok hok g5]
    have k1 := kR; have k2 := kA; have k3 := fnRShSize cur; refine z_go ?_
    apply Sym.cond
    · rfl
    · intro h
      rw [show laX n j (lxOf cur el) xs ws = ([], false) by
        unfold laX
        rw [if_neg]
        simp at h
        simp only
        omega]
      refine z_go ?_
      with_reducible first | apply Fin.rt | apply Fin.nx
      exact .cons (.tmp rfl (.of (.mk rfl z_vle))) (.cons (.tmp rfl (.of (.of rfl))) .nil)
    · intro h
      have hv : (xs.length : Int) = shSize cur ∧ (ws.length : Int) = sumW (ckL n) := by
        simp at h
        omega
      rw [show laX n j (lxOf cur el) xs ws = ((List.range (shSize (outOf cur el).1).toNat).map fun q : Nat => numT (tmT n j q) (ptT n j q) xs ws, true) from if_pos hv]
      simp only
      obtain ⟨O, hO⟩ : ∃ O : Nat, shSize (outOf cur el).1 = O := ⟨(shSize (outOf cur el).1).toNat, by omega⟩
      have ks := fnRShSize (outOf cur el).1
      have hnum : ∀ q : Nat, q < O → Fn1 Tryz.prog 60 [ntV n, .i j, .i q, V.list encU xs, V.list encU ws] (uV (numT (tmT n j q) (ptT n j q) xs ws)) := fun q hq => by
        obtain ⟨t1, t2, t3⟩ := tm_ok hok g2 g3 g4 g5 g8 (p := (q : Int)) ⟨by omega, by omega⟩
        obtain ⟨p1, p2⟩ := pt_ok hok g2 g3 g5 g8 (q : Int)
        refine fnNumber n j q xs ws (fun t ht => ⟨?_, ?_⟩) fun v hv' => ?_
        · have := t1 t ht
          omega
        · by_cases hw0 : wOf cur el = 0
          · have := t2 hw0 t ht
            omega
          · have := t3 hw0 t ht
            omega
        · have := p1 v hv'
          omega
      rw [hO] at ks
      rw [hO, Int.toNat_natCast]
      generalize hL : (List.range O).map (fun q : Nat => numT (tmT n j q) (ptT n j q) xs ws) = L at *
      have hLl : L.length = O := by rw [← hL]; simp
      refine z_go ?_
      refine Sym.weak (Le.asRow 14 27 1 rfl rfl rfl z_nrm z_nrm) ?_
      refine Sym.loop (fun k s => ∃ q : Nat, q ≤ O ∧ k = O - q ∧ s = ⟨[(15, true, .p (.i q)), (14, true, .row 1 (L.take q).length), (10, true, .p (V.list encSh (ckS n))), (4, true, .ptr 0 0), (3, true, .p (V.list encU ws)), (2, true, .p (V.list encU xs)), (1, true, .p (.i j))], [some (ntBox n), some (uRow (L.take q))]⟩) O ⟨_, ⟨0, Nat.zero_le _, by simp, rfl⟩, z_wkt⟩ ?_
      rintro k s ⟨q, hq, rfl, rfl⟩
      have k1 := ks; refine z_go ?_
      apply Sym.cond
      · rfl
      · intro hlt
        simp only [decide_eq_true_eq] at hlt
        have hlen : (L.take q).length ≤ 1000 := by
          rw [List.length_take]
          omega
        have hnx : L.take (q + 1) = L.take q ++ [numT (tmT n j q) (ptT n j q) xs ws] := by
          rw [List.take_add_one]
          congr 1
          rw [← hL]
          simp [show q < O by omega]
        have k1 := hnum q (by omega); have a1 : AppH encU (L.take q) [numT (tmT n j q) (ptT n j q) xs ws] := .mk; refine z_go ?_
        refine ⟨_, ?_, _, ⟨q + 1, by omega, rfl, rfl⟩, ?_⟩
        · omega
        · rw [hnx]
          exact z_wkt
      · intro hge
        simp only [decide_eq_false_iff_not] at hge
        obtain rfl : q = O := by omega
        rw [List.take_of_length_le (by omega)]
        refine z_go ?_
        with_reducible first | apply Fin.rt | apply Fin.nx
        exact .cons (.tmp rfl (DVr.list encU _ rfl (fun q => rfl) rfl rfl)) (.cons (.tmp rfl (.of (.of rfl))) .nil)
  · rw [Bool.not_eq_true] at hok
    rw [show laT n i xs ws = ([], false) by simp [laT, hok]]
    have hok : ((ckE n != 0 || decide (i < 0)) || decide (i ≥ (n.ls.length : Int))) = true := by
      simp only [tOk, Bool.not_eq_false'] at hok
      exact hok
    have k1 := kR; have k2 := kA; refine z_go ?_
    ((with_reducible apply SymL.opr); exact z_gd; exact MOp.off (by rw [hok]; rfl); exact rfl)
    ((with_reducible apply SymL.opr); exact z_gd; exact MOp.off (by rw [hok]; rfl); exact rfl)
    ((with_reducible apply SymL.opr); exact z_gd; exact MOp.off (by rw [hok]; rfl); exact rfl)
    ((with_reducible apply SymL.opr); exact z_gd; exact MOp.off (by rw [hok]; rfl); exact rfl)
    ((with_reducible apply SymL.opr); exact z_gd; ((with_reducible apply MOp.pickOrT); exact z_ev; rw [hok]); exact rfl)
    refine z_go ?_
    apply Sym.cond
    · rfl
    · intro h
      refine z_go ?_
      with_reducible first | apply Fin.rt | apply Fin.nx
      exact .cons (.tmp rfl (.of (.mk rfl z_vle))) (.cons (.tmp rfl (.of (.of rfl))) .nil)
    · intro h
      exact absurd h (by simp)
/-! ### package plain's Layer -/
def fillL (L : List Int) (q : Nat) : List Int := L.take q ++ List.replicate (L.length - q) 0
theorem fillL_len (L : List Int) {q : Nat} (h : q ≤ L.length) : (fillL L q).length = L.length := by
  simp [fillL]
  omega
theorem fillL_0 (L : List Int) : fillL L 0 = List.replicate L.length 0 := by simp [fillL]
theorem fillL_end (L : List Int) : fillL L L.length = L := by simp [fillL]
theorem fillL_step {L : List Int} {q : Nat} {x : Int} (h : L[q]? = some x) : (fillL L q).set q x = fillL L (q + 1) := by
  have hq : q < L.length := (List.getElem?_eq_some_iff.1 h).1
  unfold fillL
  rw [List.set_append_right _ _ (by simp; omega), List.take_add_one, h, Option.toList_some, List.append_assoc]
  congr 1
  rw [List.length_take, Nat.min_eq_left (by omega), Nat.sub_self, show L.length - q = (L.length - (q + 1)) + 1 by omega, List.replicate_succ, List.set_cons_zero]
  rfl
theorem uenc_repl (m : Nat) (x : Int) : D.enc encU (List.replicate m x) = List.replicate m (D.p (uV x)) := by
  induction m with
  | zero => rfl
  | succ m ih =>
    rw [List.replicate_succ, List.replicate_succ, ← ih]
    rfl
theorem uw_uw (x : Int) : uw (0 + uw x) = uw x := by
  rw [uw_mod, uw_mod]
  omega
section
variable {n : Nt} {j : Nat} {el : Ly} {cur : Sh} (hok : tOk n j = true) (g2 : shRight cur = true) (g3 : (outOf cur el).2 = true) (g4 : 1 ≤ el.kind ∧ el.kind ≤ 4) (g5 : (ckL n)[j]? = some (lxOf cur el)) (g8 : shRight (outOf cur el).1 = true) {xs ws : List Int} (hv : (xs.length : Int) = shSize cur ∧ (ws.length : Int) = sumW (ckL n)) {q : Nat} (hq : (q : Int) < shSize (outOf cur el).1)
include hok g2 g3 g4 g5 g8 hv hq
theorem kcW (hk : el.kind = 1 ∨ el.kind = 4) : Fn1 Tryz.prog 72 [.i q, .ref [.i n.inp.c, .i n.inp.h, .i n.inp.w, V.list encLy n.ls], .ref [.i j], .ref [V.list encU xs], .ref [V.list encU ws]] (uV (numT (tmT n j q) (ptT n j q) xs ws)) := by
  obtain ⟨w1, w2, w3, w4⟩ := out_pos g2 g3 g4
  have hw0 : wOf cur el ≠ 0 := fun h => by
    have := w1.1 h
    omega
  obtain ⟨t1, t2, t3⟩ := tm_ok hok g2 g3 g4 g5 g8 (p := (q : Int)) ⟨by omega, hq⟩
  obtain ⟨p1, p2⟩ := pt_ok hok g2 g3 g5 g8 (q : Int)
  have hp := p2 (by omega)
  have hk1 := fnK1 n j q xs ws fun t ht => by
    have h1 := t1 t ht
    have h2 := t3 hw0 t ht
    exact ⟨⟨h1.1, by omega⟩, ⟨h2.1, by omega⟩⟩
  rw [show numT (tmT n j q) (ptT n j q) xs ws = (tmT n j q).foldl (wStep xs ws) 0 by
    rw [hp]
    show (tmT n j q).foldl (nStep xs ws) 0 = _
    have key : ∀ (ts : List Tm) (s : Int), (∀ t ∈ ts, 0 ≤ t.w) → ts.foldl (nStep xs ws) s = ts.foldl (wStep xs ws) s := by
      intro ts
      induction ts with
      | nil => intro s _; rfl
      | cons t ts ih =>
        intro s h
        rw [List.foldl_cons, List.foldl_cons, ih _ fun t' ht' => h t' (List.mem_cons_of_mem _ ht')]
        congr 1
        unfold nStep wStep
        rw [if_neg (by have := h t List.mem_cons_self; omega)]
    exact key _ _ fun t ht => (t3 hw0 t ht).1]
  exact hk1
theorem kcS (hk : el.kind = 2) : Fn1 Tryz.prog 74 [.i q, .ref [V.list encU xs]] (uV (numT (tmT n j q) (ptT n j q) xs ws)) := by
  have _h4 := g4
  obtain ⟨p1, p2⟩ := pt_ok hok g2 g3 g5 g8 (q : Int)
  have hp := p2 (by omega)
  have eo : (outOf cur el).1 = cur := by rw [fits2 hk]
  have ht : tmT n j q = [⟨q, -1⟩] := by
    rw [tmT_ok hok g5]
    unfold tmX
    rw [if_pos ⟨by omega, hq⟩]
    simp only
    rw [if_neg (by omega), if_neg (by omega), if_pos hk]
  rw [hp, ht]
  have h := fnK2 (q : Int) xs ⟨by omega, by rw [eo] at hq; omega⟩
  have e : numT [⟨(q : Int), -1⟩] [] xs ws = uw (gx xs q * gx xs q) := by
    show uw (0 + uw (gx xs q * (if (-1 : Int) < 0 then gx xs q else gx ws (-1)))) = _
    rw [if_pos (by omega), uw_uw]
  rw [e]
  exact h
theorem kcP (hk : el.kind = 3) : Fn1 Tryz.prog 75 [.i q, .ref [.i n.inp.c, .i n.inp.h, .i n.inp.w, V.list encLy n.ls], .ref [.i j], .ref [V.list encU xs]] (uV (numT (tmT n j q) (ptT n j q) xs ws)) := by
  have _h4 := g4
  obtain ⟨p1, p2⟩ := pt_ok hok g2 g3 g5 g8 (q : Int)
  have ht : tmT n j q = [] := by
    rw [tmT_ok hok g5]
    unfold tmX
    rw [if_pos ⟨by omega, hq⟩]
    simp only
    rw [if_neg (by omega), if_neg (by omega), if_neg (by omega)]
  have h := fnK3 n j q xs fun v hv' => by
    have := p1 v hv'
    exact ⟨this.1, by omega⟩
  rw [ht]
  exact h
end
set_option maxHeartbeats 4000000 in
theorem fnLayer (n : Nt) (i : Int) (xs ws : List Int) : Fn1 Tryz.prog 38 [ntV n, .i i, V.list encU xs, V.list encU ws] (.tup [V.list encU (laT n i xs ws).1, .b (laT n i xs ws).2]) := by
  refine Fn1.of (rs := [V.list encU _, .b _]) (res := [.tmp 8, .tmp 9]) Tryz.call38 Tryz.func38 rfl Tryz.ntmps38 rfl (by simp) fun c hc => ?_
  have kR := fnCkShapes n
  have kA := fnCkSums n
  by_cases hok : tOk n i = true
  · obtain ⟨j, el, cur, rfl, hE, hel, g1, g2, g3, g4, g5, g6, g7, g8⟩ := tOk_at hok
    have hz := shSize_b (outOf cur el).1
    have hza := shSize_b cur
    have hjl : j < n.ls.length := (List.getElem?_eq_some_iff.1 hel).1
    obtain ⟨l1, l2, l3⟩ := ck_len hE
    have g6' : (ckS n)[((j : Int) + 1).toNat]? = some (outOf cur el).1 := g6
    rw [hE] at kR
    rw [laT_ok hok g5]
    have k1 := kR; have k2 := kA; have k3 := fnShSize cur; refine z_go ?_
    apply Sym.cond
    · rfl
    · intro h
      rw [show laX n j (lxOf cur el) xs ws = ([], false) by
        unfold laX
        rw [if_neg]
        simp at h
        simp only
        omega]
      refine z_go ?_
      with_reducible first | apply Fin.rt | apply Fin.nx
      exact .cons (.tmp rfl (.of (.mk rfl z_vle))) (.cons (.tmp rfl (.of (.of rfl))) .nil)
    · intro h
      have hv : (xs.length : Int) = shSize cur ∧ (ws.length : Int) = sumW (ckL n) := by
        simp at h
        omega
      rw [show laX n j (lxOf cur el) xs ws = ((List.range (shSize (outOf cur el).1).toNat).map fun q : Nat => numT (tmT n j q) (ptT n j q) xs ws, true) from if_pos hv]
      simp only
      obtain ⟨O, hO⟩ : ∃ O : Nat, shSize (outOf cur el).1 = O := ⟨(shSize (outOf cur el).1).toNat, by omega⟩
      have ks := fnShSize (outOf cur el).1
      have kk := fnKinds n j xs ws
      rw [hO] at ks
      rw [hO, Int.toNat_natCast]
      generalize hL : (List.range O).map (fun q : Nat => numT (tmT n j q) (ptT n j q) xs ws) = L at *
      have hLl : L.length = O := by rw [← hL]; simp
      have hLg : ∀ q, q < O → L[q]? = some (numT (tmT n j q) (ptT n j q) xs ws) := fun q hq => by
        rw [← hL]
        simp [hq]
      rcases (show el.kind = 1 ∨ el.kind = 2 ∨ el.kind = 3 ∨ el.kind = 4 by omega) with hk | hk | hk | hk
      · refine z_go ?_
        (apply Sym.drawXL [12, 13] (by kernel_rfl) (by kernel_rfl) (by kernel_rfl))
        refine z_xgo ?_
        ((with_reducible apply XTo.read1); rfl; exact z_gd; ((with_reducible apply MOp.callD kk); rfl; (intro σ; rfl); rfl; exact z_evf); exact rfl)
        refine z_xgo ?_
        ((with_reducible apply XTo.read1); rfl; exact z_gd; ((with_reducible apply MOp.indexAgg (q := 1)); exact z_ev; exact z_ev; exact hk; rfl; rfl; rfl); exact rfl)
        (with_reducible apply XTo.alloc); exact rfl; exact rfl; exact z_nrm; exact z_nrm; rfl
        · (repeat (first | exact LateOk.nil | (apply LateOk.skip; (decide +kernel)) | ((with_reducible apply LateOk.take); exact z_clx; exact z_clx; exact z_gd; (first | exact z_mop | ((with_reducible apply MOp.callD kk); rfl; (intro σ; rfl); rfl; exact z_evf) | ((with_reducible apply MOp.indexAgg (q := 1)); exact z_ev; exact z_ev; exact hk; rfl; rfl; rfl)); exact rfl)))
        refine z_xgo ?_
        have k1 := ks; refine z_go ?_
        ((with_reducible apply SymL.makeRow (cs := D.enc encU (fillL L 0))); exact z_ev; rfl; rfl; rfl; rfl; omega; rfl; (rw [fillL_0, hLl, uenc_repl]); exact rfl; exact rfl)
        refine z_go ?_
        refine Sym.loop (fun k s => ∃ q : Nat, q ≤ O ∧ k = O - q ∧ s = ⟨[(77, true, .p (.i q)), (76, true, .p (.i O)), (15, true, .row 2 O), (14, true, .ptr 1 0)], [some (ntBox n), some ⟨[kd1 n j xs ws], 102, 0⟩, some (uRow (fillL L q))]⟩) O ⟨_, ⟨0, Nat.zero_le _, by simp, rfl⟩, z_wkt⟩ ?_
        rintro k s ⟨q, hq, rfl, rfl⟩
        refine z_go ?_
        apply Sym.cond
        · rfl
        · intro hlt
          simp only [decide_eq_true_eq] at hlt
          have kq := kcW hok g2 g3 g4 g5 g8 hv (q := q) (by omega) (.inl hk)
          have hgq := hLg q (by omega)
          have k1 := (kq.toR rfl).at []; refine z_go ?_
          ((with_reducible apply SymL.storeRow (enc := encU) q (numT (tmT n j q) (ptT n j q) xs ws)); exact z_ev; exact z_ev; rfl; rfl; rfl; (intro v hv; rw [List.mem_singleton.1 hv]; rfl); rfl; (intro q; rfl); (rw [fillL_len _ (by omega)]; omega); exact z_wr)
          rw [fillL_step hgq]
          refine z_go ?_
          refine ⟨_, ?_, _, ⟨q + 1, by omega, rfl, rfl⟩, z_wkt⟩
          omega
        · intro hge
          simp only [decide_eq_false_iff_not] at hge
          obtain rfl : q = O := by omega
          refine z_go ?_
          with_reducible first | apply Fin.rt | apply Fin.nx
          rw [← hLl, fillL_end]
          exact .cons (.tmp rfl (DVr.list encU _ rfl (fun q => rfl) rfl rfl)) (.cons (.tmp rfl (.of (.of rfl))) .nil)
      · refine z_go ?_
        (apply Sym.drawXL [12, 13] (by kernel_rfl) (by kernel_rfl) (by kernel_rfl))
        refine z_xgo ?_
        ((with_reducible apply XTo.read1); rfl; exact z_gd; ((with_reducible apply MOp.callD kk); rfl; (intro σ; rfl); rfl; exact z_evf); exact rfl)
        refine z_xgo ?_
        ((with_reducible apply XTo.read1); rfl; exact z_gd; ((with_reducible apply MOp.indexAgg (q := 2)); exact z_ev; exact z_ev; exact hk; rfl; rfl; rfl); exact rfl)
        (with_reducible apply XTo.alloc); exact rfl; exact rfl; exact z_nrm; exact z_nrm; rfl
        · (repeat (first | exact LateOk.nil | (apply LateOk.skip; (decide +kernel)) | ((with_reducible apply LateOk.take); exact z_clx; exact z_clx; exact z_gd; (first | exact z_mop | ((with_reducible apply MOp.callD kk); rfl; (intro σ; rfl); rfl; exact z_evf) | ((with_reducible apply MOp.indexAgg (q := 2)); exact z_ev; exact z_ev; exact hk; rfl; rfl; rfl)); exact rfl)))
        refine z_xgo ?_
        have k1 := ks; refine z_go ?_
        ((with_reducible apply SymL.makeRow (cs := D.enc encU (fillL L 0))); exact z_ev; rfl; rfl; rfl; rfl; omega; rfl; (rw [fillL_0, hLl, uenc_repl]); exact rfl; exact rfl)
        refine z_go ?_
        refine Sym.loop (fun k s => ∃ q : Nat, q ≤ O ∧ k = O - q ∧ s = ⟨[(77, true, .p (.i q)), (76, true, .p (.i O)), (15, true, .row 2 O), (14, true, .ptr 1 0)], [some (ntBox n), some ⟨[kd2 xs], 102, 0⟩, some (uRow (fillL L q))]⟩) O ⟨_, ⟨0, Nat.zero_le _, by simp, rfl⟩, z_wkt⟩ ?_
        rintro k s ⟨q, hq, rfl, rfl⟩
        refine z_go ?_
        apply Sym.cond
        · rfl
        · intro hlt
          simp only [decide_eq_true_eq] at hlt
          have kq := kcS hok g2 g3 g4 g5 g8 hv (q := q) (by omega) hk
          have hgq := hLg q (by omega)
          have k1 := (kq.toR rfl).at []; refine z_go ?_
          ((with_reducible apply SymL.storeRow (enc := encU) q (numT (tmT n j q) (ptT n j q) xs ws)); exact z_ev; exact z_ev; rfl; rfl; rfl; (intro v hv; rw [List.mem_singleton.1 hv]; rfl); rfl; (intro q; rfl); (rw [fillL_len _ (by omega)]; omega); exact z_wr)
          rw [fillL_step hgq]
          refine z_go ?_
          refine ⟨_, ?_, _, ⟨q + 1, by omega, rfl, rfl⟩, z_wkt⟩
          omega
        · intro hge
          simp only [decide_eq_false_iff_not] at hge
          obtain rfl : q = O := by omega
          refine z_go ?_
          with_reducible first | apply Fin.rt | apply Fin.nx
          rw [← hLl, fillL_end]
          exact .cons (.tmp rfl (DVr.list encU _ rfl (fun q => rfl) rfl rfl)) (.cons (.tmp rfl (.of (.of rfl))) .nil)
      · refine z_go ?_
        (apply Sym.drawXL [12, 13] (by kernel_rfl) (by kernel_rfl) (by kernel_rfl))
        refine z_xgo ?_
        ((with_reducible apply XTo.read1); rfl; exact z_gd; ((with_reducible apply MOp.callD kk); rfl; (intro σ; rfl); rfl; exact z_evf); exact rfl)
        refine z_xgo ?_
        ((with_reducible apply XTo.read1); rfl; exact z_gd; ((with_reducible apply MOp.indexAgg (q := 3)); exact z_ev; exact z_ev; exact hk; rfl; rfl; rfl); exact rfl)
        (with_reducible apply XTo.alloc); exact rfl; exact rfl; exact z_nrm; exact z_nrm; rfl
        · (repeat (first | exact LateOk.nil | (apply LateOk.skip; (decide +kernel)) | ((with_reducible apply LateOk.take); exact z_clx; exact z_clx; exact z_gd; (first | exact z_mop | ((with_reducible apply MOp.callD kk); rfl; (intro σ; rfl); rfl; exact z_evf) | ((with_reducible apply MOp.indexAgg (q := 3)); exact z_ev; exact z_ev; exact hk; rfl; rfl; rfl)); exact rfl)))
        refine z_xgo ?_
        have k1 := ks; refine z_go ?_
        ((with_reducible apply SymL.makeRow (cs := D.enc encU (fillL L 0))); exact z_ev; rfl; rfl; rfl; rfl; omega; rfl; (rw [fillL_0, hLl, uenc_repl]); exact rfl; exact rfl)
        refine z_go ?_
        refine Sym.loop (fun k s => ∃ q : Nat, q ≤ O ∧ k = O - q ∧ s = ⟨[(77, true, .p (.i q)), (76, true, .p (.i O)), (15, true, .row 2 O), (14, true, .ptr 1 0)], [some (ntBox n), some ⟨[kd3 n j xs], 102, 0⟩, some (uRow (fillL L q))]⟩) O ⟨_, ⟨0, Nat.zero_le _, by simp, rfl⟩, z_wkt⟩ ?_
        rintro k s ⟨q, hq, rfl, rfl⟩
        refine z_go ?_
        apply Sym.cond
        · rfl
        · intro hlt
          simp only [decide_eq_true_eq] at hlt
          have kq := kcP hok g2 g3 g4 g5 g8 hv (q := q) (by omega) hk
          have hgq := hLg q (by omega)
          have k1 := (kq.toR rfl).at []; refine z_go ?_
          ((with_reducible apply SymL.storeRow (enc := encU) q (numT (tmT n j q) (ptT n j q) xs ws)); exact z_ev; exact z_ev; rfl; rfl; rfl; (intro v hv; rw [List.mem_singleton.1 hv]; rfl); rfl; (intro q; rfl); (rw [fillL_len _ (by omega)]; omega); exact z_wr)
          rw [fillL_step hgq]
          refine z_go ?_
          refine ⟨_, ?_, _, ⟨q + 1, by omega, rfl, rfl⟩, z_wkt⟩
          omega
        · intro hge
          simp only [decide_eq_false_iff_not] at hge
          obtain rfl : q = O := by omega
          refine z_go ?_
          with_reducible first | apply Fin.rt | apply Fin.nx
          rw [← hLl, fillL_end]
          exact .cons (.tmp rfl (DVr.list encU _ rfl (fun q => rfl) rfl rfl)) (.cons (.tmp rfl (.of (.of rfl))) .nil)
      · refine z_go ?_
        (apply Sym.drawXL [12, 13] (by kernel_rfl) (by kernel_rfl) (by kernel_rfl))
        refine z_xgo ?_
        ((with_reducible apply XTo.read1); rfl; exact z_gd; ((with_reducible apply MOp.callD kk); rfl; (intro σ; rfl); rfl; exact z_evf); exact rfl)
        refine z_xgo ?_
        ((with_reducible apply XTo.read1); rfl; exact z_gd; ((with_reducible apply MOp.indexAgg (q := 4)); exact z_ev; exact z_ev; exact hk; rfl; rfl; rfl); exact rfl)
        (with_reducible apply XTo.alloc); exact rfl; exact rfl; exact z_nrm; exact z_nrm; rfl
        · (repeat (first | exact LateOk.nil | (apply LateOk.skip; (decide +kernel)) | ((with_reducible apply LateOk.take); exact z_clx; exact z_clx; exact z_gd; (first | exact z_mop | ((with_reducible apply MOp.callD kk); rfl; (intro σ; rfl); rfl; exact z_evf) | ((with_reducible apply MOp.indexAgg (q := 4)); exact z_ev; exact z_ev; exact hk; rfl; rfl; rfl)); exact rfl)))
        refine z_xgo ?_
        have k1 := ks; refine z_go ?_
        ((with_reducible apply SymL.makeRow (cs := D.enc encU (fillL L 0))); exact z_ev; rfl; rfl; rfl; rfl; omega; rfl; (rw [fillL_0, hLl, uenc_repl]); exact rfl; exact rfl)
        refine z_go ?_
        refine Sym.loop (fun k s => ∃ q : Nat, q ≤ O ∧ k = O - q ∧ s = ⟨[(77, true, .p (.i q)), (76, true, .p (.i O)), (15, true, .row 2 O), (14, true, .ptr 1 0)], [some (ntBox n), some ⟨[kd1 n j xs ws], 102, 0⟩, some (uRow (fillL L q))]⟩) O ⟨_, ⟨0, Nat.zero_le _, by simp, rfl⟩, z_wkt⟩ ?_
        rintro k s ⟨q, hq, rfl, rfl⟩
        refine z_go ?_
        apply Sym.cond
        · rfl
        · intro hlt
          simp only [decide_eq_true_eq] at hlt
          have kq := kcW hok g2 g3 g4 g5 g8 hv (q := q) (by omega) (.inr hk)
          have hgq := hLg q (by omega)
          have k1 := (kq.toR rfl).at []; refine z_go ?_
          ((with_reducible apply SymL.storeRow (enc := encU) q (numT (tmT n j q) (ptT n j q) xs ws)); exact z_ev; exact z_ev; rfl; rfl; rfl; (intro v hv; rw [List.mem_singleton.1 hv]; rfl); rfl; (intro q; rfl); (rw [fillL_len _ (by omega)]; omega); exact z_wr)
          rw [fillL_step hgq]
          refine z_go ?_
          refine ⟨_, ?_, _, ⟨q + 1, by omega, rfl, rfl⟩, z_wkt⟩
          omega
        · intro hge
          simp only [decide_eq_false_iff_not] at hge
          obtain rfl : q = O := by omega
          refine z_go ?_
          with_reducible first | apply Fin.rt | apply Fin.nx
          rw [← hLl, fillL_end]
          exact .cons (.tmp rfl (DVr.list encU _ rfl (fun q => rfl) rfl rfl)) (.cons (.tmp rfl (.of (.of rfl))) .nil)
  · rw [Bool.not_eq_true] at hok
    rw [show laT n i xs ws = ([], false) by simp [laT, hok]]
    have hok : ((ckE n != 0 || decide (i < 0)) || decide (i ≥ (n.ls.length : Int))) = true := by
      simp only [tOk, Bool.not_eq_false'] at hok
      exact hok
    have k1 := kR; have k2 := kA; refine z_go ?_
    ((with_reducible apply SymL.opr); exact z_gd; exact MOp.off (by rw [hok]; rfl); exact rfl)
    ((with_reducible apply SymL.opr); exact z_gd; exact MOp.off (by rw [hok]; rfl); exact rfl)
    ((with_reducible apply SymL.opr); exact z_gd; exact MOp.off (by rw [hok]; rfl); exact rfl)
    ((with_reducible apply SymL.opr); exact z_gd; exact MOp.off (by rw [hok]; rfl); exact rfl)
    ((with_reducible apply SymL.opr); exact z_gd; ((with_reducible apply MOp.pickOrT); exact z_ev; rw [hok]); exact rfl)
    refine z_go ?_
    apply Sym.cond
    · rfl
    · intro h
      refine z_go ?_
      with_reducible first | apply Fin.rt | apply Fin.nx
      exact .cons (.tmp rfl (.of (.mk rfl z_vle))) (.cons (.tmp rfl (.of (.of rfl))) .nil)
    · intro h
      exact absurd h (by simp)
end Go.Proofs.YtfnbofkhgimkcaaGreat
