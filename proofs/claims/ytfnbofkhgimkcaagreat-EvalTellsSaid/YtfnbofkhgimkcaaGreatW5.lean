/- Layer 13: a party's stages. -/
import Derived.Test.YtfnbofkhgimkcaaGreatW4
import Derived.Test.YtfnbofkhgimkcaaGreatVB
set_option linter.unusedSimpArgs false
set_option linter.unusedVariables false
namespace Go.Proofs.YtfnbofkhgimkcaaGreat
open Go.RowKit Go.Sy
set_option maxHeartbeats 2000000 in
theorem fnPrdHave (n : Nt) (s who mny : Int) (i m : Nat) (mine theirs : List Int) (hE : ckE n = 0) (hi : i < n.ls.length) (hm : GF n i m) (h1 : mine.length = 2 * (gB n i).length) (h2 : theirs.length = 2 * (gB n i).length) :
    Fn1 Tryz.prog 117 [.agg (prdC n who s i (gO n i : Nat) mny (gS n i : Nat)), V.list encU mine, V.list encU theirs] (V.list encU (hvT n s who i mine theirs)) := by
  refine Fn1.of (rs := [V.list encU _]) (res := [.tmp 6]) Tryz.call117 Tryz.func117 rfl Tryz.ntmps117 rfl (by simp) fun c hc => ?_
  obtain ⟨l1, l2, l3⟩ := ck_len hE
  have ke := fnEachHave n s who mny i m mine theirs hE hi hm h1 h2
  have kp := fnPooled n who s (i + 1) (rawT n s who i mine theirs) (by omega)
  rw [Int.natCast_add, Int.cast_ofNat_Int] at kp
  have hs2 := hm.s2
  have hrl := raw_len n s who i mine theirs
  rw [show hvT n s who i mine theirs = plT n (zW n) (i + 1) (rawT n s who i mine theirs) from rfl]
  generalize rawT n s who i mine theirs = X at *
  refine z_go ?_
  ((with_reducible apply SymL.makeRow (cs := D.enc encU (List.replicate (gS n i) 0))); exact z_ev; rfl; rfl; rfl; rfl; omega; rfl; (rw [uenc_repl]); exact rfl; exact rfl)
  refine z_go ?_
  refine SymL.icp 1 [V.list encU mine] rfl (by rw [hc]; exact Nat.zero_le _) (by simp only [Hp.icp, D.enc, D.icpL_p, D.icp, D.icpL, Nat.beq, cond_true, cond_false, List.drop_zero, List.set_cons_zero, List.set_cons_succ]; exact rfl) (by simp only [TM.icp, TM.args, D.icp, D.icpL, Nat.beq, cond_true, cond_false, List.drop_zero]; exact rfl) ?_
  refine SymL.icp 2 [V.list encU theirs] rfl (by rw [hc]; exact Nat.zero_le _) (by simp only [Hp.icp, D.enc, D.icpL_p, D.icp, D.icpL, Nat.beq, cond_true, cond_false, List.drop_zero, List.set_cons_zero, List.set_cons_succ]; exact rfl) (by simp only [TM.icp, TM.args, D.icp, D.icpL, Nat.beq, cond_true, cond_false, List.drop_zero]; exact rfl) ?_
  refine SymL.icp 0 (prdC n who s i (gO n i : Nat) mny (gS n i : Nat)) rfl (by rw [hc]; exact Nat.zero_le _) (by simp only [Hp.icp, D.enc, D.icpL_p, D.icp, D.icpL, Nat.beq, cond_true, cond_false, List.drop_zero, List.set_cons_zero, List.set_cons_succ]; exact rfl) (by simp only [TM.icp, TM.args, D.icp, D.icpL, Nat.beq, cond_true, cond_false, List.drop_zero]; exact rfl) ?_
  ((with_reducible apply SymL.callB [4, 3] ke); exact z_ren; exact z_evf; (refine ⟨?_, ?_, trivial⟩ <;> first | exact rfl | (simp only [Box.ren, D.enc, D.renL_p]; exact rfl)); decide; exact rfl; exact z_wrB; exact z_ren; exact z_ren)
  refine z_go ?_
  (refine SymL.freeze encU 19 X (by rw [hrl]; rfl) rfl rfl (by assumption) z_cln z_cln ?_)
  have k1 := kp; refine z_go ?_
  with_reducible first | apply Fin.rt | apply Fin.nx
  exact (.cons (.tmp rfl (.of (.of rfl))) .nil)
theorem fnLastIn (m : Int) : Fn1 Tryz.prog 112 [.agg [.i m]] (.i m) := by
  refine Fn1.of (rs := [.i _]) (res := [.tmp 2]) Tryz.call112 Tryz.func112 rfl Tryz.ntmps112 rfl (by simp) fun c hc => ?_
  refine z_go ?_
  with_reducible first | apply Fin.rt | apply Fin.nx
  exact (.cons (.tmp rfl (.of (.of rfl))) .nil)
theorem fnPrdIn (n : Nt) (who s l fst mny out : Int) : Fn1 Tryz.prog 118 [.agg (prdC n who s l fst mny out)] (.i mny) := by
  refine Fn1.of (rs := [.i _]) (res := [.tmp 2]) Tryz.call118 Tryz.func118 rfl Tryz.ntmps118 rfl (by simp) fun c hc => ?_
  refine z_go ?_
  with_reducible first | apply Fin.rt | apply Fin.nx
  exact (.cons (.tmp rfl (.of (.of rfl))) .nil)
theorem fnLastSay (m : Int) (xs ws : List Int) (h : xs.length ≤ 1000000) : Fn1 Tryz.prog 113 [.agg [.i m], V.list encU xs, V.list encU ws] (V.list encU xs) := by
  refine Fn1.of (rs := [V.list encU _]) (res := [.tmp 6]) Tryz.call113 Tryz.func113 rfl Tryz.ntmps113 rfl (by simp) fun c hc => ?_
  have k1 := fnCloneU xs h; refine z_go ?_
  with_reducible first | apply Fin.rt | apply Fin.nx
  exact (.cons (.tmp rfl (.of (.of rfl))) .nil)
theorem fnLastHave (m : Int) (a b : List Int) (ha : a.length ≤ 1000000) (hb : b.length ≤ 1000000) : Fn1 Tryz.prog 111 [.agg [.i m], V.list encU a, V.list encU b] (V.list encU (addL a b)) := by
  refine Fn1.of (rs := [V.list encU _]) (res := [.tmp 6]) Tryz.call111 Tryz.func111 rfl Tryz.ntmps111 rfl (by simp) fun c hc => ?_
  have k1 := fnAddR a b ha hb; refine z_go ?_
  with_reducible first | apply Fin.rt | apply Fin.nx
  exact (.cons (.tmp rfl (.of (.of rfl))) .nil)
def stgV (n : Nt) (who s st : Int) : V := if stOk n st then (if st = (stL n).length then .ifc 79 (.agg [.i (inT n st)]) else .ifc 81 (.agg (prdC n who s (lay n st.toNat : Nat) (gO n (lay n st.toNat) : Nat) (inT n st) (gS n (lay n st.toNat) : Nat)))) else .x .nilIface
set_option maxHeartbeats 4000000 in
theorem fnStage (n : Nt) (who s st : Int) (hn : n.ls.length ≤ 1000) : Fn1 Tryz.prog 22 [.agg (ptyC n who s), .i st] (stgV n who s st) := by
  refine Fn1.of (rs := [stgV n who s st]) (res := [.tmp 4]) Tryz.call22 Tryz.func22 rfl Tryz.ntmps22 rfl (by simp) fun c hc => ?_
  have hsl := stA_len n
  have hsb : (stL n).length ≤ 1000 := by rw [← stA_len]; exact Nat.le_trans (stI_len n _) hn
  have k1 := fnCkShapes n; have k2 := fnGStages n hn; refine z_go ?_
  apply Sym.cond
  · rfl
  · intro hE
    have hE : ¬ ckE n = 0 := by simpa using hE
    refine z_go ?_
    apply Sym.cond
    · rfl
    · intro _
      refine z_go ?_
      with_reducible first | apply Fin.rt | apply Fin.nx
      rw [stgV, if_neg (fun h => hE h.1)]
      exact (.cons (.tmp rfl (.of (.of rfl))) .nil)
    · intro h
      exfalso
      simp at h
      exact hE h
  · intro hE
    have hE : ckE n = 0 := by simpa using hE
    refine z_go ?_
    apply Sym.cond
    · rfl
    · intro h0
      have h0 : st < 0 := by simpa using h0
      refine z_go ?_
      apply Sym.cond
      · rfl
      · intro _
        refine z_go ?_
        with_reducible first | apply Fin.rt | apply Fin.nx
        rw [stgV, if_neg (fun h => absurd h.2.1 (by omega))]
        exact (.cons (.tmp rfl (.of (.of rfl))) .nil)
      · intro h
        exfalso
        simp at h
        omega
    · intro h0
      have h0 : ¬ st < 0 := by simpa using h0
      refine z_go ?_
      apply Sym.cond
      · rfl
      · intro h1
        have h1 : ((stA n).length : Int) < st := by simpa using h1
        refine z_go ?_
        with_reducible first | apply Fin.rt | apply Fin.nx
        rw [stgV, if_neg (fun h => absurd h.2.2 (by omega))]
        exact (.cons (.tmp rfl (.of (.of rfl))) .nil)
      · intro h1
        have h1 : ¬ ((stA n).length : Int) < st := by simpa using h1
        obtain ⟨k, rfl⟩ : ∃ k : Nat, st = k := ⟨st.toNat, by omega⟩
        have hok : stOk n k := ⟨hE, by omega, by omega⟩
        refine z_go ?_
        apply Sym.cond
        · rfl
        · intro h2
          have h2 : k = (stL n).length := by
            simp at h2
            omega
          have hla := shLast_at hE
          have hsn := ckSn_len hE
          rw [stgV, if_pos hok, if_pos (by omega), h2, inT_end hE]
          have k1 := fnShSize (shLast n); refine z_go ?_
          ((with_reducible apply SymL.opr); exact z_gd; exact MOp.makeIface rfl z_ev; exact rfl)
          refine z_go ?_
          with_reducible first | apply Fin.rt | apply Fin.nx
          exact (.cons (.tmp rfl (.of (.of rfl))) .nil)
        · intro h2
          have h2 : k < (stL n).length := by
            simp at h2
            omega
          obtain ⟨i, hi⟩ : ∃ i, (stL n)[k]? = some i := ⟨_, List.getElem?_eq_getElem h2⟩
          have hi2 := stA_at hi
          have hil := (stL_mem hi).1
          have hsn := ckSn_len hE
          obtain ⟨cur, hcur⟩ : ∃ cur, (ckS n)[i]? = some cur := ⟨_, List.getElem?_eq_getElem (by omega)⟩
          obtain ⟨nxt, hnxt⟩ : ∃ nxt, (ckS n)[i + 1]? = some nxt := ⟨_, List.getElem?_eq_getElem (by omega)⟩
          have hnxt2 : (ckS n)[((i : Int) + 1).toNat]? = some nxt := hnxt
          have kr := fnGRange n k hn
          rw [rg_at hi] at kr
          dsimp only at kr
          have kz := fnShSize nxt
          have hgs := gS_at hnxt
          have hzb := shSize_b nxt
          rw [show shSize nxt = ((gS n i : Nat) : Int) by omega] at kz
          rw [stgV, if_pos hok, if_neg (by omega), Int.toNat_natCast, lay_at hi, inT_at hi hcur]
          have k1 := kr; refine z_go ?_
          clear k1
          have k1 := fnShSize cur
          have k2 := kz
          refine Sym.drawA (by kernel_rfl) (by kernel_rfl) ?_
          refine z_mta ?_
          ((with_reducible apply MAll.step1); exact z_gd; exact MOp.makeIface rfl z_ev; exact rfl)
          refine z_mta ?_
          with_reducible apply MAll.nil
          refine z_go ?_
          with_reducible first | apply Fin.rt | apply Fin.nx
          exact (.cons (.tmp rfl (.of (.of rfl))) .nil)
end Go.Proofs.YtfnbofkhgimkcaaGreat
