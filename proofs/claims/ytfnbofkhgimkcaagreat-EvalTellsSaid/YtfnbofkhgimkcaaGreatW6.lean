/- Layer 13: First, Line and Next. -/
import Derived.Test.YtfnbofkhgimkcaaGreatW5
set_option linter.unusedSimpArgs false
set_option linter.unusedVariables false
namespace Go.Proofs.YtfnbofkhgimkcaaGreat
open Go.RowKit Go.Sy
theorem mLastIn : Meth Tryz.prog 79 "symbolon/eval.in" 112 := ⟨fun v w => by kernel_rfl⟩
theorem mLastSay : Meth Tryz.prog 79 "symbolon/eval.say" 113 := ⟨fun v w => by kernel_rfl⟩
theorem mLastHave : Meth Tryz.prog 79 "symbolon/eval.have" 111 := ⟨fun v w => by kernel_rfl⟩
theorem mPrdIn : Meth Tryz.prog 81 "symbolon/eval.in" 118 := ⟨fun v w => by kernel_rfl⟩
theorem mPrdSay : Meth Tryz.prog 81 "symbolon/eval.say" 119 := ⟨fun v w => by kernel_rfl⟩
theorem mPrdHave : Meth Tryz.prog 81 "symbolon/eval.have" 117 := ⟨fun v w => by kernel_rfl⟩
theorem uStage : Tryz.prog.underlying 48 = some (.interface (Tryz.prog.methodsAt 48)) := by kernel_rfl
theorem tm_fit {n : Nt} (hE : ckE n = 0) {i : Nat} (hi : i < n.ls.length) {cur : Sh} (hc : (ckS n)[i]? = some cur) {X W : Nat} (hX : (X : Int) = shSize cur) (hW : (W : Int) = sumW (ckL n)) : tmFit n i X W := by
  intro p hp t ht
  have hok : tOk n i = true := tOk_iff.2 ⟨hE, by omega, by omega⟩
  obtain ⟨j', el, cur', hjj, _, hel, g1, g2, g3, g4, g5, g6, g7, g8⟩ := tOk_at hok
  obtain rfl : i = j' := by omega
  rw [hc] at g1
  injection g1 with g1
  subst g1
  have hgs := gS_at g6
  have hzb := shSize_b (outOf cur el).1
  obtain ⟨t1, t2, t3⟩ := tm_ok hok g2 g3 g4 g5 g8 (p := (p : Int)) ⟨by omega, by omega⟩
  have h1 := t1 t ht
  refine ⟨by omega, ?_⟩
  by_cases hw0 : wOf cur el = 0
  · have := t2 hw0 t ht
    omega
  · have := t3 hw0 t ht
    omega
theorem stgV_no {n : Nt} {who s st : Int} (h : ¬ stOk n st) : stgV n who s st = .x .nilIface := if_neg h
theorem stgV_end {n : Nt} (hE : ckE n = 0) (who s : Int) : stgV n who s ((stL n).length : Nat) = .ifc 79 (.agg [.i (shSize (shLast n))]) := by
  rw [stgV, if_pos ⟨hE, by omega, by omega⟩, if_pos rfl, inT_end hE]
theorem stgV_at {n : Nt} {k i : Nat} (h : (stL n)[k]? = some i) (who s : Int) : stgV n who s k = .ifc 81 (.agg (prdC n who s i (gO n i : Nat) (inT n k) (gS n i : Nat))) := by
  have hk := (List.getElem?_eq_some_iff.1 h).1
  rw [stgV, if_pos ⟨stL_ok h, by omega, by omega⟩, if_neg (by omega), Int.toNat_natCast, lay_at h]
set_option maxHeartbeats 4000000 in
theorem fnLine (n : Nt) (who s st : Int) (xs ws : List Int) (hn : n.ls.length ≤ 1000) : Fn1 Tryz.prog 8 [ntV n, .i who, uV s, .i st, V.list encU xs, V.list encU ws] (.tup [V.list encU (lineT n who s st xs ws).1, .b (lineT n who s st xs ws).2]) := by
  refine Fn1.of (rs := [V.list encU _, .b _]) (res := [.tmp 12, .tmp 13]) Tryz.call8 Tryz.func8 rfl Tryz.ntmps8 rfl (by simp) fun c hc => ?_
  have ks := fnStage n who s st hn
  by_cases hok : stOk n st
  · obtain ⟨k, rfl⟩ : ∃ k : Nat, st = k := ⟨st.toNat, by have := hok.2.1; omega⟩
    have hE := hok.1
    have hkl := hok.2.2
    by_cases hk : k = (stL n).length
    · subst hk
      rw [stgV_end hE] at ks
      have hin := inT_end hE
      have hz := shSize_b (shLast n)
      have k1 := ks; have k2 := fnCkSums n; refine z_go ?_
      (with_reducible apply SymL.opr); exact z_gd; (exact MOp.ifcNil uStage z_ev); exact rfl
      refine z_go ?_
      (with_reducible apply SymL.opr); exact z_gd; (exact MOp.invoke mLastIn (fun _ => fnLastIn (shSize (shLast n))) z_ev z_args); exact rfl
      refine z_go ?_
      apply Sym.cond
      · rfl
      · intro hb
        rw [show lineT n who s ((stL n).length : Nat) xs ws = ([], false) by
          unfold lineT
          rw [if_neg]
          simp at hb
          rw [hin]
          omega]
        refine z_go ?_
        with_reducible first | apply Fin.rt | apply Fin.nx
        exact .cons (.tmp rfl (.of (.mk rfl z_vle))) (.cons (.tmp rfl (.of (.of rfl))) .nil)
      · intro hb
        have hb : (xs.length : Int) = shSize (shLast n) ∧ (ws.length : Int) = sumW (ckL n) := by
          simp at hb
          omega
        rw [show lineT n who s ((stL n).length : Nat) xs ws = (xs, true) by
          unfold lineT
          rw [if_pos ⟨⟨hok, by rw [hin]; exact hb.1⟩, hb.2⟩, if_pos rfl]]
        refine z_go ?_
        (with_reducible apply SymL.opr); exact z_gd; (exact MOp.invoke mLastSay (fun _ => fnLastSay (shSize (shLast n)) xs ws (by omega)) z_ev z_args); exact rfl
        refine z_go ?_
        with_reducible first | apply Fin.rt | apply Fin.nx
        exact .cons (.tmp rfl (.of (.of rfl))) (.cons (.tmp rfl (.of (.of rfl))) .nil)
    · obtain ⟨i, hi⟩ : ∃ i, (stL n)[k]? = some i := ⟨_, List.getElem?_eq_getElem (by omega)⟩
      have hil := (stL_mem hi).1
      have hsn := ckSn_len hE
      obtain ⟨cur, hcur⟩ : ∃ cur, (ckS n)[i]? = some cur := ⟨_, List.getElem?_eq_getElem (by omega)⟩
      have hin := inT_at hi hcur
      obtain ⟨m, hm⟩ := g_form hE hil
      rw [stgV_at hi, hin] at ks
      have k1 := ks; have k2 := fnCkSums n; refine z_go ?_
      (with_reducible apply SymL.opr); exact z_gd; (exact MOp.ifcNil uStage z_ev); exact rfl
      refine z_go ?_
      (with_reducible apply SymL.opr); exact z_gd; (exact MOp.invoke mPrdIn (fun _ => fnPrdIn n who s i (gO n i : Nat) (shSize cur) (gS n i : Nat)) z_ev z_args); exact rfl
      refine z_go ?_
      apply Sym.cond
      · rfl
      · intro hb
        rw [show lineT n who s k xs ws = ([], false) by
          unfold lineT
          rw [if_neg]
          simp at hb
          rw [hin]
          omega]
        refine z_go ?_
        with_reducible first | apply Fin.rt | apply Fin.nx
        exact .cons (.tmp rfl (.of (.mk rfl z_vle))) (.cons (.tmp rfl (.of (.of rfl))) .nil)
      · intro hb
        have hb : (xs.length : Int) = shSize cur ∧ (ws.length : Int) = sumW (ckL n) := by
          simp at hb
          omega
        rw [show lineT n who s k xs ws = (sayT n s who i xs ws, true) by
          unfold lineT
          rw [if_pos ⟨⟨hok, by rw [hin]; exact hb.1⟩, hb.2⟩, if_neg (by omega), Int.toNat_natCast, lay_at hi]]
        refine z_go ?_
        (with_reducible apply SymL.opr); exact z_gd; (exact MOp.invoke mPrdSay (fun _ => fnPrdSay n s who (shSize cur) i m xs ws hE hil hm (tm_fit hE hil hcur hb.1 hb.2)) z_ev z_args); exact rfl
        refine z_go ?_
        with_reducible first | apply Fin.rt | apply Fin.nx
        exact .cons (.tmp rfl (.of (.of rfl))) (.cons (.tmp rfl (.of (.of rfl))) .nil)
  · rw [stgV_no hok] at ks
    rw [show lineT n who s st xs ws = ([], false) by
      unfold lineT
      rw [if_neg (fun h => hok h.1.1)]]
    have k1 := ks; have k2 := fnCkSums n; refine z_go ?_
    (with_reducible apply SymL.opr); exact z_gd; (exact MOp.nilNil uStage z_ev); exact rfl
    refine z_go ?_
    (with_reducible apply SymL.opr); exact z_gd; (exact MOp.orT z_ev rfl); exact rfl
    refine z_go ?_
    apply Sym.cond
    · rfl
    · intro _
      refine z_go ?_
      with_reducible first | apply Fin.rt | apply Fin.nx
      exact .cons (.tmp rfl (.of (.mk rfl z_vle))) (.cons (.tmp rfl (.of (.of rfl))) .nil)
    · intro h
      simp at h
set_option maxHeartbeats 4000000 in
theorem fnNext (n : Nt) (who s st : Int) (xs ys : List Int) (hn : n.ls.length ≤ 1000) : Fn1 Tryz.prog 10 [ntV n, .i who, uV s, .i st, V.list encU xs, V.list encU ys] (.tup [V.list encU (nextT n who s st xs ys).1, .b (nextT n who s st xs ys).2]) := by
  refine Fn1.of (rs := [V.list encU _, .b _]) (res := [.tmp 12, .tmp 13]) Tryz.call10 Tryz.func10 rfl Tryz.ntmps10 rfl (by simp) fun c hc => ?_
  have ks := fnStage n who s st hn
  have kl := fnGLine n st hn
  by_cases hok : stOk n st
  · obtain ⟨k, rfl⟩ : ∃ k : Nat, st = k := ⟨st.toNat, by have := hok.2.1; omega⟩
    have hE := hok.1
    have hkl := hok.2.2
    by_cases hk : k = (stL n).length
    · subst hk
      rw [stgV_end hE] at ks
      have hz := shSize_b (shLast n)
      have hln : (lnM n ((stL n).length : Nat)).2 = shSize (shLast n) := by rw [lnM, if_pos ⟨hE, rfl⟩]
      generalize hL : lnM n ((stL n).length : Nat) = L at *
      have k1 := ks; have k2 := kl; refine z_go ?_
      (with_reducible apply SymL.opr); exact z_gd; (exact MOp.ifcNil uStage z_ev); exact rfl
      refine z_go ?_
      apply Sym.cond
      · rfl
      · intro hb
        rw [show nextT n who s ((stL n).length : Nat) xs ys = ([], false) by
          unfold nextT
          rw [if_neg]
          simp at hb
          rw [hL]
          omega]
        refine z_go ?_
        with_reducible first | apply Fin.rt | apply Fin.nx
        exact .cons (.tmp rfl (.of (.mk rfl z_vle))) (.cons (.tmp rfl (.of (.of rfl))) .nil)
      · intro hb
        have hb : (xs.length : Int) = L.2 ∧ (ys.length : Int) = L.2 := by
          simp at hb
          omega
        rw [show nextT n who s ((stL n).length : Nat) xs ys = (addL xs ys, true) by
          unfold nextT
          rw [if_pos ⟨hok, by rw [hL]; exact hb.1, by rw [hL]; exact hb.2⟩, if_pos rfl]]
        refine z_go ?_
        (with_reducible apply SymL.opr); exact z_gd; (exact MOp.invoke mLastHave (fun _ => fnLastHave (shSize (shLast n)) xs ys (by omega) (by omega)) z_ev z_args); exact rfl
        refine z_go ?_
        with_reducible first | apply Fin.rt | apply Fin.nx
        exact .cons (.tmp rfl (.of (.of rfl))) (.cons (.tmp rfl (.of (.of rfl))) .nil)
    · obtain ⟨i, hi⟩ : ∃ i, (stL n)[k]? = some i := ⟨_, List.getElem?_eq_getElem (by omega)⟩
      have hil := (stL_mem hi).1
      obtain ⟨m, hm⟩ := g_form hE hil
      rw [stgV_at hi] at ks
      have hln : (lnM n k).2 = 2 * (((gB n i).length : Nat) : Int) := by rw [lnM_at hi]
      generalize hL : lnM n k = L at *
      have k1 := ks; have k2 := kl; refine z_go ?_
      (with_reducible apply SymL.opr); exact z_gd; (exact MOp.ifcNil uStage z_ev); exact rfl
      refine z_go ?_
      apply Sym.cond
      · rfl
      · intro hb
        rw [show nextT n who s k xs ys = ([], false) by
          unfold nextT
          rw [if_neg]
          simp at hb
          rw [hL]
          omega]
        refine z_go ?_
        with_reducible first | apply Fin.rt | apply Fin.nx
        exact .cons (.tmp rfl (.of (.mk rfl z_vle))) (.cons (.tmp rfl (.of (.of rfl))) .nil)
      · intro hb
        have hb : (xs.length : Int) = L.2 ∧ (ys.length : Int) = L.2 := by
          simp at hb
          omega
        rw [show nextT n who s k xs ys = (hvT n s who i xs ys, true) by
          unfold nextT
          rw [if_pos ⟨hok, by rw [hL]; exact hb.1, by rw [hL]; exact hb.2⟩, if_neg (by omega), Int.toNat_natCast, lay_at hi]]
        refine z_go ?_
        (with_reducible apply SymL.opr); exact z_gd; (exact MOp.invoke mPrdHave (fun _ => fnPrdHave n s who (inT n k) i m xs ys hE hil hm (by omega) (by omega)) z_ev z_args); exact rfl
        refine z_go ?_
        with_reducible first | apply Fin.rt | apply Fin.nx
        exact .cons (.tmp rfl (.of (.of rfl))) (.cons (.tmp rfl (.of (.of rfl))) .nil)
  · rw [stgV_no hok] at ks
    rw [show nextT n who s st xs ys = ([], false) by
      unfold nextT
      rw [if_neg (fun h => hok h.1)]]
    have k1 := ks; have k2 := kl; refine z_go ?_
    (with_reducible apply SymL.opr); exact z_gd; (exact MOp.nilNil uStage z_ev); exact rfl
    refine z_go ?_
    apply Sym.cond
    · rfl
    · intro _
      refine z_go ?_
      with_reducible first | apply Fin.rt | apply Fin.nx
      exact .cons (.tmp rfl (.of (.mk rfl z_vle))) (.cons (.tmp rfl (.of (.of rfl))) .nil)
    · intro h
      simp at h
set_option maxHeartbeats 4000000 in
theorem fnFirst (n : Nt) (xs : List Int) (hn : n.ls.length ≤ 1000) : Fn1 Tryz.prog 6 [ntV n, V.list encU xs] (.tup [V.list encU (firstT n xs).1, .b (firstT n xs).2]) := by
  refine Fn1.of (rs := [V.list encU _, .b _]) (res := [.tmp 4, .tmp 5]) Tryz.call6 Tryz.func6 rfl Tryz.ntmps6 rfl (by simp) fun c hc => ?_
  have k1 := fnCkRight n; have k2 := fnShSize n.inp; refine z_go ?_
  apply Sym.cond
  · rfl
  · intro hb
    rw [show firstT n xs = ([], false) by
      unfold firstT
      rw [if_neg]
      simp at hb
      omega]
    refine z_go ?_
    with_reducible first | apply Fin.rt | apply Fin.nx
    exact .cons (.tmp rfl (.of (.mk rfl z_vle))) (.cons (.tmp rfl (.of (.of rfl))) .nil)
  · intro hb
    have hb : ckE n = 0 ∧ (xs.length : Int) = shSize n.inp := by
      simp at hb
      omega
    have hz := first_fit hb.1 hb.2
    have hz2 : inT n 0 ≤ 128 := by
      unfold inT
      split
      · have := shSize_b ((ckS n).getD (lay n (0 : Int).toNat) shZ)
        omega
      · omega
    have kc := fnCloneU (plT n (zW n) 0 xs) (by omega)
    have kp := fnPooled n 0 0 0 xs (by omega)
    rw [show firstT n xs = (plT n (zW n) 0 xs, true) from if_pos hb]
    have k1 := (kp.toR rfl).at []; have k2 := kc; refine z_go ?_
    with_reducible first | apply Fin.rt | apply Fin.nx
    exact .cons (.tmp rfl (.of (.of rfl))) (.cons (.tmp rfl (.of (.of rfl))) .nil)
set_option maxHeartbeats 4000000 in
theorem fnIn (n : Nt) (st : Int) (hn : n.ls.length ≤ 1000) : Fn1 Tryz.prog 25 [ntV n, .i st] (.i (inT n st)) := by
  refine Fn1.of (rs := [.i _]) (res := [.tmp 4]) Tryz.call25 Tryz.func25 rfl Tryz.ntmps25 rfl (by simp) fun c hc => ?_
  have hsl := stA_len n
  have hsb : (stL n).length ≤ 1000 := by rw [← stA_len]; exact Nat.le_trans (stI_len n _) hn
  have k1 := fnRShapes n; have k2 := fnRGStages n hn; refine z_go ?_
  apply Sym.cond
  · rfl
  · intro hb
    rw [show inT n st = -1 by
      unfold inT
      rw [if_neg]
      unfold stOk
      simp at hb
      omega]
    refine z_go ?_
    with_reducible first | apply Fin.rt | apply Fin.nx
    exact (.cons (.tmp rfl (.of (.of rfl))) .nil)
  · intro hb
    have hok : stOk n st := by
      unfold stOk
      simp at hb
      omega
    have hE := hok.1
    have hkl := hok.2.2
    obtain ⟨k, rfl⟩ : ∃ k : Nat, st = k := ⟨st.toNat, by have := hok.2.1; omega⟩
    refine z_go ?_
    apply Sym.cond
    · rfl
    · intro h2
      have h2 : k = (stL n).length := by
        simp at h2
        omega
      have hla := shLast_at hE
      have hsn := ckSn_len hE
      rw [h2, inT_end hE]
      have k1 := fnRShSize (shLast n); refine z_go ?_
      with_reducible first | apply Fin.rt | apply Fin.nx
      exact (.cons (.tmp rfl (.of (.of rfl))) .nil)
    · intro h2
      have h2 : k < (stL n).length := by
        simp at h2
        omega
      obtain ⟨i, hi⟩ : ∃ i, (stL n)[k]? = some i := ⟨_, List.getElem?_eq_getElem h2⟩
      have hi2 := stA_at hi
      have hil := (stL_mem hi).1
      have hsn := ckSn_len hE
      obtain ⟨cur, hcur⟩ : ∃ cur, (ckS n)[i]? = some cur := ⟨_, List.getElem?_eq_getElem (by omega)⟩
      rw [inT_at hi hcur]
      have k1 := fnRShSize cur; refine z_go ?_
      with_reducible first | apply Fin.rt | apply Fin.nx
      exact (.cons (.tmp rfl (.of (.of rfl))) .nil)
end Go.Proofs.YtfnbofkhgimkcaaGreat
